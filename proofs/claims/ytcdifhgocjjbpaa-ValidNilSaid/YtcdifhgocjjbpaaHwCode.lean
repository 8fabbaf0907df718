/- The evaluator of code, and that it is sound for the model's machine. -/
import Derived.Test.YtcdifhgocjjbpaaHwOrd
import Derived.Laws.Sem
import Derived.LoopNIn
import Derived.Scope
import Derived.RangeFuncIn
import Derived.RangeFuncLeaves
set_option linter.unusedVariables false
set_option linter.unusedSimpArgs false
namespace Go.HW
open Go

inductive Ex where
  | normal | exit (id : Nat) | ret | goto (l : Nat)
def Ex.to : Ex → Exit
  | .normal => .normal | .exit id => .exit id | .ret => .ret | .goto l => .goto l

/-- Notes beside the code: which slots are kept (bits), in which order a region is walked, in which pieces. -/
inductive Ann where
  | leaf
  | exit (keep : Nat)
  | seq (keep : Nat) (a b : Ann)
  | cond (a b : Ann)
  | block (a : Ann)
  | loop (keep : Nat) (a : Ann)
  | region (segs : List (List Nat × Nat))
  | tree (t : Tr) (m : Nat)
  | straight (a : Ann)
  | scope (keep : List (Nat × Nat)) (a : Ann)
  | range (keep : Nat) (a b : Ann)
  | join (a : Ann)

def evSegs (P : Program) (ops : List Oper) : List (List Nat × Nat) → Fr → (Fr → Heap → Prop) → Heap → Prop
  | [], fr, K, h => K fr h
  | (l, m) :: rest, fr, K, h => evIdx P ops l fr (fun fr' h' => evSegs P ops rest (fr'.mask m) K h') h
def flat : List (List Nat × Nat) → List Nat
  | [] => []
  | (l, _) :: rest => l ++ flat rest
def seqK (k : Fr → Heap → Prop) (K : Ex → Fr → Heap → Prop) : Ex → Fr → Heap → Prop :=
  fun e fr h => match e with
    | .normal => k fr h
    | e => K e fr h
def blockK (id : Nat) (K : Ex → Fr → Heap → Prop) : Ex → Fr → Heap → Prop :=
  fun e fr h => match e with
    | .exit id' => match decide (id' = id) with
      | true => K .normal fr h
      | false => K (.exit id') fr h
    | e => K e fr h
def noGotoK (K : Ex → Fr → Heap → Prop) : Ex → Fr → Heap → Prop :=
  fun e fr h => match e with
    | .goto _ => False
    | e => K e fr h
def hasLabel (c : Code) (l : Nat) : Bool := match findLabel c l with | some _ => true | none => false
/-- Jumps into this scope are taken by g. -/
def scopeK (c : Code) (g : Nat → Fr → Heap → Prop) (K : Ex → Fr → Heap → Prop) : Ex → Fr → Heap → Prop :=
  fun e fr h => match e with
    | .goto l => match hasLabel c l with
      | true => g l fr h
      | false => K (.goto l) fr h
    | e => K e fr h
def keepOf : List (Nat × Nat) → Nat → Nat
  | [], _ => 0
  | (l, m) :: r, l' => match decide (l = l') with | true => m | false => keepOf r l'
/-- What a round's way out leaves in the loop's record. -/
def endL (L : Loop) (p : Option Code) : Obj := .loop { L with state := (match p with | none => .ready | some _ => .done), pending := p }
def roundEnd (l : Nat) (K : Value → Heap → Prop) : Ex → Fr → Heap → Prop := fun e _ h => ∃ L, h[l]? = some (.loop L) ∧
  match e with
  | .normal => K (.bool true) (h.setIfInBounds l (endL L none))
  | .ret => K (.bool false) (h.setIfInBounds l (endL L (some .ret)))
  | .exit id => K (.bool false) (h.setIfInBounds l (endL L (some (.exit id))))
  | .goto t => K (.bool false) (h.setIfInBounds l (endL L (some (.goto t))))
def jumpK (p : Option Code) (K : Ex → Heap → Prop) (h : Heap) : Prop :=
  match p with
  | none => K .normal h
  | some .ret => K .ret h
  | some (.exit id) => K (.exit id) h
  | some (.goto l) => K (.goto l) h
  | _ => False
/-- A range over a function, outermost: the record is laid, the function is called with yield; behind it the pending jump is made. -/
def rangeK (P : Program) (gv : Value) (ps : Array Tmp) (assign body : Code) (fr : Fr) (K : Ex → Fr → Heap → Prop) (h : Heap) : Prop :=
  ∃ f a b, gv = .func (.func f) a b ∧ callable P f = true ∧ ∀ (fn : FuncId) (tmps : Array Value), FrRel fr tmps →
    SpecH P f (a.toList ++ [.func (.yield (h.size + 1)) #[] #[]] ++ b.toList)
      ((h.push (.deferred (some []))).push (.loop { state := .ready, pending := none, fn := fn, tmps := tmps, params := ps, assign := assign, body := body, defers := h.size }))
      (fun _ h' => ∃ L, h'[h.size + 1]? = some (.loop L) ∧ L.state ≠ .busy ∧ h'[h.size]? = some (.deferred (some [])) ∧
        jumpK L.pending (fun e h => K e fr h) (h'.setIfInBounds (h.size + 1) (.loop { L with state := .exhausted })))

/-- Of which fence: wide, in a round or not. -/
def RF (r : Option Nat) : Fence := { Fence.wide with round := r }
theorem room_RF (r : Option Nat) (n : Nat) : (RF r).room n := room_wide n

/-- Marks of rounds on the activation's deferred calls: blocks of its own, untouched. -/
def Marks (base : Nat) : List Deferred → Heap → Prop
  | [], _ => True
  | d :: ds, h => ∃ D, d = { target := .collected D, args := #[] } ∧ base ≤ D ∧ h[D]? = some (.deferred (some [])) ∧ (∀ d' ∈ ds, d' ≠ d) ∧ Marks base ds h
theorem Marks.keep {base : Nat} {ds : List Deferred} {h h' : Heap} (hk : KeepD h h') (hm : Marks base ds h) : Marks base ds h' := by
  induction ds with
  | nil => trivial
  | cons d ds ih => obtain ⟨D, e, hb, hD, hn, hm⟩ := hm; exact ⟨D, e, hb, hk D _ hD rfl, hn, ih hm⟩
theorem Marks.base {b b' : Nat} (hb : b' ≤ b) {ds : List Deferred} {h : Heap} (hm : Marks b ds h) : Marks b' ds h := by
  induction ds with
  | nil => trivial
  | cons d ds ih => obtain ⟨D, e, hbD, hD, hn, hm⟩ := hm; exact ⟨D, e, by omega, hD, hn, ih hm⟩
theorem Marks.mem {b : Nat} {ds : List Deferred} {h : Heap} (hm : Marks b ds h) {d : Deferred} (hd : d ∈ ds) : ∃ D, d = { target := .collected D, args := #[] } ∧ b ≤ D ∧ D < h.size := by
  induction ds with
  | nil => simp at hd
  | cons e ds ih =>
    obtain ⟨D, he, hbD, hD, hn, hm⟩ := hm
    rcases List.mem_cons.1 hd with rfl | hd
    · exact ⟨D, he, hbD, (Array.getElem?_eq_some_iff.1 hD).1⟩
    · exact ih hm hd
theorem Marks.append {b m : Nat} {ds es : List Deferred} {h : Heap} (h1 : Marks m ds h) (h2 : Marks b es h) (hlt : ∀ d ∈ es, ∃ D, d = { target := .collected D, args := #[] } ∧ D < m) (hb : b ≤ m) : Marks b (ds ++ es) h := by
  induction ds with
  | nil => exact h2
  | cons d ds ih =>
    obtain ⟨D, e, hbD, hD, hn, hm⟩ := h1
    refine ⟨D, e, by omega, hD, ?_, ih hm⟩
    intro d' hd'
    rcases List.mem_append.1 hd' with hd' | hd'
    · exact hn d' hd'
    · obtain ⟨D', e', hlt'⟩ := hlt d' hd'
      rw [e', e]
      intro hh
      injection hh with hh1
      injection hh1 with hh2
      omega

def hasRange : Code → Bool
  | .rangeFunc .. => true
  | .seq a b | .cond _ a b => hasRange a || hasRange b
  | .block _ c | .loop c | .scope c => hasRange c
  | _ => false

def PostOf (hr : Bool) (K : Ex → Fr → Heap → Prop) (a : Act) (w : World) : Exit → Act → World → Prop :=
  fun e a' w' => (∃ ds, a'.defers = ds ++ a.defers ∧ Marks w.heap.size ds w'.heap ∧ (hr = false → ds = [])) ∧ Same w w' ∧ ∃ ex fr', e = ex.to ∧ FrRel fr' a'.tmps ∧ K ex fr' w'.heap
theorem PostOf.plain {hr : Bool} {K : Ex → Fr → Heap → Prop} {a a' : Act} {w w' : World} {ex : Ex} {fr : Fr} (hd : a'.defers = a.defers) (hs : Same w w') (hf : FrRel fr a'.tmps) (hK : K ex fr w'.heap) : PostOf hr K a w ex.to a' w' :=
  ⟨⟨[], by simpa using hd, trivial, fun _ => rfl⟩, hs, ex, fr, rfl, hf, hK⟩
theorem PostOf.then_ {hr hr1 hr2 : Bool} {K : Ex → Fr → Heap → Prop} {a a1 : Act} {w w1 : World} (h : ∃ ds, a1.defers = ds ++ a.defers ∧ Marks w.heap.size ds w1.heap ∧ (hr1 = false → ds = [])) (hs : Same w w1)
    (h1 : hr = false → hr1 = false) (h2 : hr = false → hr2 = false) {e : Exit} {b : Act} {v : World} (hp : PostOf hr2 K a1 w1 e b v) : PostOf hr K a w e b v := by
  obtain ⟨ds, hd, hm, hz⟩ := h
  obtain ⟨⟨es, he, hm2, hz2⟩, hs2, hx⟩ := hp
  refine ⟨⟨es ++ ds, by rw [he, hd, List.append_assoc], ?_, fun hh => by rw [hz (h1 hh), hz2 (h2 hh)]; rfl⟩, hs.trans hs2, hx⟩
  refine Marks.append hm2 (hm.keep hs2.defs) ?_ hs.size
  intro d hd'
  obtain ⟨D, hD, _, hlt⟩ := hm.mem hd'
  exact ⟨D, hD, hlt⟩
theorem PostOf.weaken {hr hr' : Bool} {K : Ex → Fr → Heap → Prop} {a : Act} {w : World} (h : hr = false → hr' = false) {e : Exit} {b : Act} {v : World} (hp : PostOf hr' K a w e b v) : PostOf hr K a w e b v :=
  let ⟨⟨ds, h1, h2, h3⟩, r⟩ := hp; ⟨⟨ds, h1, h2, fun hh => h3 (h hh)⟩, r⟩

/-- The code that is walked: from the head, or from a label on. -/
def codeAt (c : Code) : Option Nat → Code
  | none => c
  | some l => match findLabel c l with | some r => r | none => .refuse ""


/-- A piece of code by its meaning alone (it is not reckoned further). -/
structure Jn (P : Program) (top : Bool) (c : Code) (fr : Fr) (K : Ex → Fr → Heap → Prop) (h : Heap) : Prop where
  ok : ∀ (r : Option Nat), (top = true → r = none) → ∀ (a : Act) (w : World), FrRel fr a.tmps → w.heap = h → c.wpIn (RF r) 0 P (PostOf (hasRange c) K a w) a w
/-- A loop at the head of a round. -/
structure Lp (P : Program) (top : Bool) (c : Code) (fr : Fr) (K : Ex → Fr → Heap → Prop) (h : Heap) : Prop where
  ok : ∀ (r : Option Nat), (top = true → r = none) → ∀ (a : Act) (w : World), FrRel fr a.tmps → w.heap = h → ∀ (b : Frame) (k : List Item) (cs : List Frame), b.roundOf = (RF r).round →
    ∃ e a' w', PostOf (hasRange c) K a w e a' w' ∧ ArrivesIn (Machine.fenced P (RF r)) P (lone (b.atR a (.code c :: .inLoop c :: k)) cs w) b k cs e a' w'
/-- A scope from its head, or from a label on. -/
structure Sc (P : Program) (top : Bool) (c : Code) (o : Option Nat) (fr : Fr) (K : Ex → Fr → Heap → Prop) (h : Heap) : Prop where
  ok : (∀ l, o = some l → hasLabel c l = true) → ∀ (r : Option Nat), (top = true → r = none) → ∀ (a : Act) (w : World), FrRel fr a.tmps → w.heap = h → ∀ (b : Frame) (k : List Item) (cs : List Frame), b.roundOf = (RF r).round →
    ∃ e a' w', PostOf (hasRange c) K a w e a' w' ∧ ArrivesIn (Machine.fenced P (RF r)) P (lone (b.atR a (.code (codeAt c o) :: .inScope c :: k)) cs w) b k cs e a' w'

def Ann.unJ : Ann → Ann
  | .join x => x
  | x => x
def ev (P : Program) : Bool → Option Nat → Code → Ann → Fr → (Ex → Fr → Heap → Prop) → Heap → Prop
  | top, none, c, .join _, fr, K, h => Jn P top c fr K h
  | _, none, .skip, _, fr, K, h => K .normal fr h
  | _, none, .label _, _, fr, K, h => K .normal fr h
  | _, some l, .label l', _, fr, K, h => match decide (l' = l) with | true => K .normal fr h | false => False
  | _, none, .ret, .exit keep, fr, K, h => K .ret (fr.mask keep) h
  | _, none, .exit id, .exit keep, fr, K, h => K (.exit id) (fr.mask keep) h
  | _, none, .goto l, .exit keep, fr, K, h => K (.goto l) (fr.mask keep) h
  | top, none, .seq a b, .seq keep x y, fr, K, h => ev P top none a x fr (seqK (fun fr h => ev P top none b y (fr.mask keep) K h) K) h
  | top, some l, .seq a b, .seq keep x y, fr, K, h => match hasLabel a l with
    | true => ev P top (some l) a x fr (seqK (fun fr h => ev P top none b y (fr.mask keep) K h) K) h
    | false => ev P top (some l) b y.unJ fr K h
  | top, none, .cond c a b, .cond x y, fr, K, h => match fr.ev c with
    | some (.bool t) => br t (ev P top none a x fr K h) (ev P top none b y fr K h)
    | _ => False
  | top, none, .block id c, .block x, fr, K, h => ev P top none c x fr (blockK id K) h
  | top, none, .loop c, .loop keep x, fr, K, h => Lp P top c (fr.mask keep) K h
  | top, none, .scope c, .straight x, fr, K, h => ev P top none c x fr (noGotoK K) h
  | top, none, .scope c, .scope keep x, fr, K, h => Sc P top c none fr K h
  | _, none, .region _ ops draw, .region segs, fr, K, h => match draw with
    | false => match decide (flat segs = List.range ops.size) with
      | true => evSegs P ops.toList segs fr (fun fr h => K .normal fr h) h
      | false => False
    | true => match segs with
      | [(l, m)] => match okOrd P ops l with
        | true => evIdx P ops.toList l fr (fun fr h => K .normal (fr.mask m) h) h
        | false => False
      | _ => False
  | _, none, .region _ ops draw, .tree t m, fr, K, h => match draw with
    | true => match okTree P ops t with
      | true => evT P ops.toList t fr (fun fr h => K .normal (fr.mask m) h) h
      | false => False
    | false => False
  | true, none, .rangeFunc g ps assign body, .range keep _ _, fr, K, h => match fr.ev g with
    | some gv => rangeK P gv ps assign body (fr.mask keep) K h
    | none => False
  | _, _, _, _, _, _, _ => False

/-! ### Places in a text -/
def sub : Code → List Nat → Code
  | c, [] => c
  | .seq a b, i :: l => match i with | 0 => sub a l | _ => sub b l
  | .cond _ a b, i :: l => match i with | 0 => sub a l | _ => sub b l
  | .block _ c, _ :: l => sub c l
  | .loop c, _ :: l => sub c l
  | .scope c, _ :: l => sub c l
  | .rangeFunc _ _ a b, i :: l => match i with | 0 => sub a l | _ => sub b l
  | c, _ :: _ => c
def subA : Ann → List Nat → Ann
  | .join c, l => subA c l
  | c, [] => c
  | .seq _ a b, i :: l => match i with | 0 => subA a l | _ => subA b l
  | .cond a b, i :: l => match i with | 0 => subA a l | _ => subA b l
  | .block c, _ :: l => subA c l
  | .loop _ c, _ :: l => subA c l
  | .straight c, _ :: l => subA c l
  | .scope _ c, _ :: l => subA c l
  | .range _ a b, i :: l => match i with | 0 => subA a l | _ => subA b l
  | c, _ :: _ => c
def bodyOf (f : Func) : Code := match f.body with | some c => c | none => .skip
/-- A frame by its known slots, in their order. -/
def mkFr : Nat → Nat → List (Nat × Value) → Fr
  | _, 0, _ => []
  | i, n + 1, l => match l with
    | [] => none :: mkFr (i + 1) n []
    | (j, v) :: r => match decide (i = j) with
      | true => some v :: mkFr (i + 1) n r
      | false => none :: mkFr (i + 1) n l

/-! ### Soundness -/
theorem put_defers (a : Act) (d : Option Tmp) (v : Value) : (a.put d v).defers = a.defers := by cases d <;> rfl

/-- What is left to do behind an operation, on the model's side. -/
def NextOk (P : Program) (a : Act) (w : World) (next : Act → World → Prop) (K : Fr → Heap → Prop) : Prop :=
  ∀ a' w' fr', a'.defers = a.defers → Same w w' → FrRel fr' a'.tmps → K fr' w'.heap → next a' w'

theorem opsOf_defer {o : Oper} {l : List Operand} (h : opsOf o = some l) : ∀ c, o.op ≠ .defer c := by
  intro c hc; unfold opsOf at h; rw [hc] at h; simp at h

theorem evOp_ok {P : Program} {r : Option Nat} {ops : List Oper} {o : Oper} {fr : Fr} {K : Fr → Heap → Prop} {h : Heap} (H : evOp P ops o fr K h) {a : Act} {w : World} (hr : FrRel fr a.tmps) (hw : w.heap = h)
    {next : Act → World → Prop} {Q : Exit → Act → World → Prop} (hn : NextOk P a w next K) : o.wpIn (RF r) 0 P a w next Q := by
  unfold evOp at H
  split at H
  · exact H.elim
  · rename_i l hl
    split at H
    · rename_i hk
      have hc : execOp fr.rho o = execOp a.eval o := execOp_congr hl fun x hx => rho_eval hr (allKnown_mem hk x hx)
      have H := opK_ok (rho_func fr) (opK_mono (fun v h k => castK_elim k) H)
      rw [hc] at H
      obtain ⟨nx, w', hrun, hs, hK⟩ := hwp_sound _ H w hw
      refine ⟨fun _ _ => trivial, ?_⟩
      rw [Oper.semAt_eq _ _ _ (opsOf_defer hl), hrun]
      cases nx <;> first | exact hK.elim | skip
      case value v => exact hn _ _ _ (put_defers _ _ _) hs (hr.put _ _) hK
      case skip => exact hn _ _ _ (put_defers _ _ _) hs (hr.put _ _) hK
      case enter f args =>
        have := hK w' rfl
        rw [show args.toList.toArray = args from by simp] at this
        refine ⟨fun h => (by simp [RF, Fence.wide] at h), ?_⟩
        have h2 : CallsIn (RF r) 0 P f args w' (fun e w'' => ∃ v, e = .returned v ∧ Same w' w'' ∧ K (fr.put o.dst v) w''.heap) := callsIn_wide.2 this
        refine h2.mono ?_
        rintro e w'' ⟨v, rfl, hs', hK'⟩
        exact hn _ _ _ (put_defers _ _ _) (hs.trans hs') (hr.put _ _) hK'
      case round l f tmps assign body =>
        have := hK w' rfl
        refine ⟨fun h => (by simp [RF, Fence.wide] at h), ?_⟩
        have h2 : RoundIn (RF r) 0 P l f tmps assign body w' (fun e w'' => ∃ v, e = .returned v ∧ Same w' w'' ∧ K (fr.put o.dst v) w''.heap) := this
        refine h2.mono ?_
        rintro e w'' ⟨v, rfl, hs', hK'⟩
        exact hn _ _ _ (put_defers _ _ _) (hs.trans hs') (hr.put _ _) hK'
    · exact H.elim

theorem set_rel {fr : Fr} {tmps : Array Value} (hr : FrRel fr tmps) {d : Nat} {v : Value} (hd : fr.get d = some v) : FrRel (fr.set d v) tmps := by
  rw [set_same hd]; exact hr

theorem evOne_ok {P : Program} {r : Option Nat} {ops : Array Oper} {i : Nat} {o : Oper} (ho : ops[i]? = some o) {fr : Fr} {K : Fr → Heap → Prop} {h : Heap} (H : evOne P ops.toList o fr K h)
    {a : Act} {w : World} (hr : FrRel fr a.tmps) (hw : w.heap = h) {Q : Exit → Act → World → Prop} {next : Act → World → Prop} (hn : NextOk P a w next K) : wpOpIn (RF r) 0 P ops Q i next a w := by
  unfold wpOpIn
  rw [ho]
  simp only
  unfold evOne at H
  split at H
  · rename_i hg
    rw [if_pos (by simp [Region.wanted, hg])]
    exact evOp_ok H hr hw hn
  · rename_i j want hg
    split at H
    · exact H.elim
    · rename_i d hd
      rw [nth_eq, Array.getElem?_toList] at hd
      split at H
      · rename_i b hb
        have hy : yielded ops a.tmps j = some b := by simp [yielded, hd, hr.2 _ _ hb]
        have hset : ∀ c, b = c → FrRel (fr.set d (.bool c)) a.tmps := by rintro c rfl; exact set_rel hr hb
        cases b with
        | true =>
          cases want with
          | true =>
            rw [if_pos (by simp [Region.wanted, hg, hy])]
            exact evOp_ok H (hset _ rfl) hw hn
          | false =>
            rw [if_neg (by simp [Region.wanted, hg, hy])]
            subst hw
            exact ⟨fun _ _ => trivial, hn _ _ _ (put_defers _ _ _) (.refl w) ((hset _ rfl).put _ _) H⟩
        | false =>
          cases want with
          | false =>
            rw [if_pos (by simp [Region.wanted, hg, hy])]
            exact evOp_ok H (hset _ rfl) hw hn
          | true =>
            rw [if_neg (by simp [Region.wanted, hg, hy])]
            subst hw
            exact ⟨fun _ _ => trivial, hn _ _ _ (put_defers _ _ _) (.refl w) ((hset _ rfl).put _ _) H⟩
      · rename_i v hnb hv
        have hy : yielded ops a.tmps j = none := by
          simp only [yielded, hd, Option.bind_some, hr.2 _ _ hv]
          cases v <;> first | rfl | exact absurd rfl (hnb _) | exact absurd hv (hnb _)
        rw [if_neg (by simp [Region.wanted, hg, hy])]
        subst hw
        exact ⟨fun _ _ => trivial, hn _ _ _ (put_defers _ _ _) (.refl w) (hr.put _ _) H⟩
      · exact H.elim
theorem evAny_ok {P : Program} {r : Option Nat} {ops : Array Oper} {Q : Exit → Act → World → Prop} : ∀ (n : Nat) {listed : Array Bool} {fr : Fr} {K : Fr → Heap → Prop} {h : Heap}, evAny P ops n listed fr K h →
    ∀ {a : Act} {w : World}, FrRel fr a.tmps → w.heap = h → NextOk P a w (fun a w => Q .normal a w) K → wpAnyIn (RF r) 0 P .any ops Q n listed a w := by
  intro n
  induction n with
  | zero => intro listed fr K h H a w hr hw hn; subst hw; exact ⟨H.1, hn _ _ _ rfl (.refl w) hr H.2⟩
  | succ n ih =>
    intro listed fr K h H a w hr hw hn
    refine ⟨fun h0 => by subst hw; exact hn _ _ _ rfl (.refl w) hr (H.1 h0), fun i hi => ?_⟩
    obtain ⟨_, o, ho, _⟩ := mem_ready.1 hi
    have h1 := H.2 i hi o ho
    refine evOne_ok ho h1 hr hw ?_
    intro a' w' fr' hd hs hr' hK
    refine ih hK hr' rfl ?_
    intro a'' w'' fr'' hd' hs' hr'' hK'
    exact hn _ _ _ (hd'.trans hd) (hs.trans hs') hr'' hK'
theorem evIdx_ok {P : Program} {r : Option Nat} {ops : Array Oper} {Q : Exit → Act → World → Prop} (l : List Nat) : ∀ (l' : List Nat) {fr : Fr} {K : Fr → Heap → Prop} {h : Heap}, evIdx P ops.toList l fr K h →
    ∀ {a : Act} {w : World}, FrRel fr a.tmps → w.heap = h → NextOk P a w (wpOpsIn (RF r) 0 P ops Q l') K → wpOpsIn (RF r) 0 P ops Q (l ++ l') a w := by
  induction l with
  | nil => intro l' fr K h H a w hr hw hn; subst hw; exact hn _ _ _ rfl (.refl w) hr H
  | cons i l ih =>
    intro l' fr K h H a w hr hw hn
    simp only [evIdx] at H
    split at H
    · exact H.elim
    · rename_i o ho
      rw [nth_eq, Array.getElem?_toList] at ho
      rw [List.cons_append, wpOpsIn_cons]
      refine evOne_ok ho H hr hw ?_
      intro a' w' fr' hd hs hr' hK
      refine ih l' hK hr' rfl ?_
      intro a'' w'' fr'' hd' hs' hr'' hK'
      exact hn _ _ _ (hd'.trans hd) (hs.trans hs') hr'' hK'
theorem evSegs_ok {P : Program} {r : Option Nat} {ops : Array Oper} {Q : Exit → Act → World → Prop} (segs : List (List Nat × Nat)) : ∀ {fr : Fr} {K : Fr → Heap → Prop} {h : Heap}, evSegs P ops.toList segs fr K h →
    ∀ {a : Act} {w : World}, FrRel fr a.tmps → w.heap = h → NextOk P a w (fun a w => Q .normal a w) K → wpOpsIn (RF r) 0 P ops Q (flat segs) a w := by
  induction segs with
  | nil => intro fr K h H a w hr hw hn; subst hw; exact hn _ _ _ rfl (.refl w) hr H
  | cons s segs ih =>
    obtain ⟨l, m⟩ := s
    intro fr K h H a w hr hw hn
    refine evIdx_ok l (flat segs) H hr hw ?_
    intro a' w' fr' hd hs hr' hK
    refine ih hK (hr'.mask m) rfl ?_
    intro a'' w'' fr'' hd' hs' hr'' hK'
    exact hn _ _ _ (hd'.trans hd) (hs.trans hs') hr'' hK'

/-! ### Scopes -/
theorem stepR_scope {P : Program} {b : Frame} {a : Act} {k : List Item} {cs : List Frame} {w : World} {c : Code} :
    step P (lone (b.atR a (.code (.scope c) :: k)) cs w) = .next (lone (b.atR a (.code c :: .inScope c :: k)) cs w) :=
  step_lone_go (by simp [stepG, stepG.exec, Frame.atR])
theorem stepR_inScope {P : Program} {b : Frame} {a : Act} {k : List Item} {cs : List Frame} {w : World} {c : Code} :
    step P (lone (b.atR a (.inScope c :: k)) cs w) = .next (lone (b.atR a k) cs w) :=
  step_lone_go (by simp [stepG, stepG.exec, Frame.atR])

theorem hasLabel_iff {c : Code} {l : Nat} : hasLabel c l = true ↔ ∃ r, findLabel c l = some r := by
  unfold hasLabel; split <;> simp_all
theorem hasLabel_false {c : Code} {l : Nat} (h : hasLabel c l = false) : findLabel c l = none := by
  unfold hasLabel at h; split at h <;> simp_all

/-- What follows a scope's inside, at a way out of it. -/
theorem scope_out {P : Program} {r : Option Nat} {c : Code} {b : Frame} {k : List Item} {cs : List Frame} {m : Machine} {e : Exit} {a : Act} {w : World} (hbf : (RF r).fn b.fn) (hrm : (RF r).room (cs.length + 1 + 0))
    (hg : ∀ l, e = .goto l → findLabel c l = none)
    (h : ArrivesIn (Machine.fenced P (RF r)) P m b (.inScope c :: k) cs e a w) : ArrivesIn (Machine.fenced P (RF r)) P m b k cs e a w := by
  cases e with
  | normal => exact StepsIn.trans h (.one (fenced_calm (fr := b.atR a (.inScope c :: k)) hbf hrm rfl) stepR_inScope)
  | exit id => exact ⟨fun k' hk => h.1 k' (by simp [exitTo, hk]), fun hk => h.2 (by simpa [exitTo] using hk)⟩
  | goto l => 
    have := hg l rfl
    exact ⟨fun k' hk => h.1 k' (by simp [gotoIn, this, hk]), fun hro hk => h.2 hro (by simp [gotoIn, this, hk])⟩
  | ret => exact h
  | panic ch => exact h
  | outgrown => exact h

theorem wpIn_scope {P : Program} {r : Option Nat} {c : Code} {Q : Exit → Act → World → Prop} {a : Act} {w : World}
    (h : ∀ (b : Frame) (k : List Item) (cs : List Frame), b.roundOf = (RF r).round →
      ∃ e a' w', Q e a' w' ∧ ArrivesIn (Machine.fenced P (RF r)) P (lone (b.atR a (.code c :: .inScope c :: k)) cs w) b k cs e a' w') : (Code.scope c).wpIn (RF r) 0 P Q a w := by
  intro b k cs hro hb hr
  obtain ⟨e, a', w', hq, harr⟩ := h b k cs hro
  exact ⟨e, a', w', hq, .of_steps (.one (fenced_calm (fr := b.atR a (.code (.scope c) :: k)) hb hr rfl) stepR_scope) harr⟩

/-! ### A range over a function -/
theorem run_enterLoop (P : Program) (w : World) (fn : FuncId) (tmps : Array Value) (ps : Array Tmp) (assign body : Code) :
    (Instr.enterLoop fn tmps ps assign body none).run P w = .ok (w.heap.size + 1, [{ target := .collected w.heap.size, args := #[] }])
      { w with heap := (w.heap.push (.deferred (some []))).push (.loop { state := .ready, pending := none, fn := fn, tmps := tmps, params := ps, assign := assign, body := body, defers := w.heap.size }) } := by
  simp [Instr.enterLoop, Sem.run_bind, Result.andThen]
  exact ⟨rfl, rfl, rfl⟩

theorem run_endLoop {P : Program} {w : World} {l : Nat} {L : Loop} (h : w.heap[l]? = some (.loop L)) (hb : L.state ≠ .busy) :
    (Instr.endLoop l).run P w = .ok L.pending { w with heap := w.heap.setIfInBounds l (.loop { L with state := .exhausted }) } := by
  have hb' : (L.state == .busy) = false := by cases hs : L.state <;> first | rfl | (exact absurd hs hb)
  simp only [Instr.endLoop, Instr.getLoop, Sem.run_bind, getObj, setObj, Sem.run, h, Result.andThen, hb', pure, if_false, Bool.false_eq_true]

theorem callFunc_run {P : Program} {f : FuncId} (hc : callable P f = true) (args : Array Value) (w : World) : (callFunc f args).run P w = .ok (.enter f args) w := by
  unfold callable at hc
  split at hc
  · rename_i fn hfn
    simp only [Bool.and_eq_true, Bool.not_eq_true'] at hc
    have hn : (fn.body.isNone) = false := by cases hb : fn.body <;> simp_all
    simp only [callFunc, Sem.run_bind, run_program, Result.andThen, hfn, hc.2, hn, Bool.false_eq_true, if_false, pure, Sem.run]
  · simp at hc

theorem rangeK_ok {P : Program} {g : Operand} {gv : Value} {ps : Array Tmp} {assign body : Code} {fr : Fr} {K : Ex → Fr → Heap → Prop} {h : Heap} (H : rangeK P gv ps assign body fr K h)
    {a : Act} {w : World} (hg : a.eval g = gv) (hr : FrRel fr a.tmps) (hw : w.heap = h) : (Code.rangeFunc g ps assign body).wpIn (RF none) 0 P (PostOf true K a w) a w := by
  subst hw
  obtain ⟨f, ga, gb, rfl, hcl, H⟩ := H
  refine wpIn_rangeFunc fun fn _ => ?_
  have Hc := H fn a.tmps hr
  obtain ⟨w1, hw1⟩ : ∃ w1 : World, w1 = { w with heap := (w.heap.push (.deferred (some []))).push (.loop { state := .ready, pending := none, fn := fn, tmps := a.tmps, params := ps, assign := assign, body := body, defers := w.heap.size }) } := ⟨_, rfl⟩
  have hs1 : Same w w1 := by rw [hw1]; exact (same_push w _).trans (same_push { w with heap := w.heap.push (.deferred (some [])) } _)
  have hh1 : w1.heap = (w.heap.push (.deferred (some []))).push (.loop { state := .ready, pending := none, fn := fn, tmps := a.tmps, params := ps, assign := assign, body := body, defers := w.heap.size }) := by rw [hw1]
  refine ⟨w.heap.size + 1, [{ target := .collected w.heap.size, args := #[] }], w1, { target := .fn (.func f) gb, args := ga ++ #[.func (.yield (w.heap.size + 1)) #[] #[]] }, w1, f, ga ++ #[.func (.yield (w.heap.size + 1)) #[] #[]] ++ gb, w1, ?_, ?_, fun _ _ => trivial, ?_, fun h => (by simp [RF, Fence.wide] at h), ?_⟩
  · rw [hw1]; exact run_enterLoop P w fn a.tmps ps assign body
  · have e1 : (rangeCall g (w.heap.size + 1)).args.map a.eval = #[.func (.yield (w.heap.size + 1)) #[] #[]] := by simp [Act.eval]
    show (Deferred.ofValue (a.eval g) ((rangeCall g (w.heap.size + 1)).args.map a.eval)).run P w1 = _
    rw [e1, hg]; rfl
  · exact callFunc_run hcl _ _
  · have hc := Hc w1 hh1
    rw [show (ga.toList ++ [Value.func (.yield (w.heap.size + 1)) #[] #[]] ++ gb.toList).toArray = ga ++ #[.func (.yield (w.heap.size + 1)) #[] #[]] ++ gb from by rw [← Array.toList_inj]; simp] at hc
    have h2 : CallsIn (RF none) 0 P f (ga ++ #[.func (.yield (w.heap.size + 1)) #[] #[]] ++ gb) w1 _ := callsIn_wide.2 hc
    refine h2.mono ?_
    rintro e w3 ⟨v, rfl, hs3, L, hL, hLb, hD, hj⟩
    refine ⟨L.pending, _, run_endLoop hL hLb, ?_⟩
    have hs13 : Same w w3 := hs1.trans hs3
    have hs4 : Same w3 { w3 with heap := w3.heap.setIfInBounds (w.heap.size + 1) (.loop { L with state := .exhausted }) } := same_set hL rfl _
    have hm : Marks w.heap.size [{ target := .collected w.heap.size, args := #[] }] (w3.heap.setIfInBounds (w.heap.size + 1) (.loop { L with state := .exhausted })) :=
      ⟨w.heap.size, rfl, Nat.le_refl _, hs4.defs _ _ hD rfl, by simp, trivial⟩
    have fin : ∀ ex : Ex, K ex fr (w3.heap.setIfInBounds (w.heap.size + 1) (.loop { L with state := .exhausted })) →
        PostOf true K a w ex.to { a with defers := [{ target := .collected w.heap.size, args := #[] }] ++ a.defers } { w3 with heap := w3.heap.setIfInBounds (w.heap.size + 1) (.loop { L with state := .exhausted }) } := by
      intro ex hk
      exact ⟨⟨_, rfl, hm, by simp⟩, hs13.trans hs4, ex, fr, rfl, hr, hk⟩
    generalize w3.heap.setIfInBounds (w.heap.size + 1) (.loop { L with state := .exhausted }) = X at hj fin ⊢
    clear hs4 hm
    cases hp : L.pending with
    | none => rw [hp] at hj; exact fin .normal hj
    | some c =>
      rw [hp] at hj
      cases c <;> first | exact hj.elim | skip
      case ret => exact wpIn_ret (fin .ret hj)
      case exit id => exact wpIn_exit (fin (.exit id) hj)
      case goto l => exact wpIn_goto (fin (.goto l) hj)

theorem join_ok {P : Program} {top : Bool} {c : Code} {x : Ann} {fr : Fr} {K : Ex → Fr → Heap → Prop} {h : Heap} (H : ev P top none c (.join x) fr K h) {r : Option Nat} (ht : top = true → r = none) {a : Act} {w : World} (hr : FrRel fr a.tmps) (hw : w.heap = h) :
    (codeAt c none).wpIn (RF r) 0 P (PostOf (hasRange c) K a w) a w := by
  have H' : Jn P top c fr K h := by cases c <;> simpa only [ev] using H
  exact H'.ok r ht a w hr hw
theorem ev_ok {P : Program} (c : Code) : ∀ {top : Bool} {o : Option Nat} {ann : Ann} {fr : Fr} {K : Ex → Fr → Heap → Prop} {h : Heap}, ev P top o c ann fr K h →
    ∀ {r : Option Nat}, (top = true → r = none) → (∀ l, o = some l → hasLabel c l = true) → ∀ {a : Act} {w : World}, FrRel fr a.tmps → w.heap = h → (codeAt c o).wpIn (RF r) 0 P (PostOf (hasRange c) K a w) a w := by
  induction c with
  | skip =>
    intro top o ann fr K h H r ht ho a w hr hw
    cases o with
    | some l => simp [ev] at H
    | none => cases ann <;> first | exact join_ok H ht hr hw | (subst hw; exact wpIn_skip (PostOf.plain (ex := .normal) rfl (.refl w) hr (by simpa only [ev] using H)))
  | label l =>
    intro top o ann fr K h H r ht ho a w hr hw
    subst hw
    cases o with
    | none => cases ann <;> first | exact join_ok H ht hr rfl | exact wpIn_label (PostOf.plain (ex := .normal) rfl (.refl w) hr (by simpa only [ev] using H))
    | some l' =>
      simp only [ev] at H
      split at H
      · rename_i hl
        have hl := of_decide_eq_true hl
        subst hl
        have : codeAt (.label l) (some l) = .skip := by simp [codeAt, findLabel]
        rw [this]
        exact wpIn_skip (PostOf.plain (ex := .normal) rfl (.refl w) hr H)
      · exact H.elim
  | ret =>
    intro top o ann fr K h H r ht ho a w hr hw
    cases o <;> cases ann <;> first | (simp [ev] at H; done) | exact join_ok H ht hr hw | skip
    subst hw; exact wpIn_ret (PostOf.plain (ex := .ret) rfl (.refl w) (hr.mask _) (by simpa only [ev] using H))
  | exit id =>
    intro top o ann fr K h H r ht ho a w hr hw
    cases o <;> cases ann <;> first | (simp [ev] at H; done) | exact join_ok H ht hr hw | skip
    subst hw; exact wpIn_exit (PostOf.plain (ex := .exit id) rfl (.refl w) (hr.mask _) (by simpa only [ev] using H))
  | goto l =>
    intro top o ann fr K h H r ht ho a w hr hw
    cases o <;> cases ann <;> first | (simp [ev] at H; done) | exact join_ok H ht hr hw | skip
    subst hw; exact wpIn_goto (PostOf.plain (ex := .goto l) rfl (.refl w) (hr.mask _) (by simpa only [ev] using H))
  | refuse y =>
    intro top o ann fr K h H r ht ho a w hr hw
    cases o <;> cases ann <;> first | exact join_ok H ht hr hw | (simp [ev] at H)
  | scope c ih =>
    intro top o ann fr K h H r ht ho a w hr hw
    cases o with
    | some l => have := ho l rfl; simp [hasLabel, findLabel] at this
    | none =>
      cases ann <;> first | (simp [ev] at H; done) | exact join_ok H ht hr hw | skip
      case straight x =>
        simp only [ev] at H
        refine wpIn_scope fun b k cs hro => ?_
        obtain ⟨e, a1, w1, ⟨hd, hs, ex, fr1, rfl, hr1, hK⟩, harr⟩ := ih H ht (by simp) hr hw b (.inScope c :: k) cs hro trivial (room_RF _ _)
        cases ex with
        | normal => exact ⟨_, a1, w1, ⟨hd, hs, .normal, fr1, rfl, hr1, hK⟩, scope_out trivial (room_RF _ _) (by simp [Ex.to]) harr⟩
        | exit id => exact ⟨_, a1, w1, ⟨hd, hs, .exit id, fr1, rfl, hr1, hK⟩, scope_out trivial (room_RF _ _) (by simp [Ex.to]) harr⟩
        | ret => exact ⟨_, a1, w1, ⟨hd, hs, .ret, fr1, rfl, hr1, hK⟩, scope_out trivial (room_RF _ _) (by simp [Ex.to]) harr⟩
        | goto l => exact hK.elim
      case scope keep x =>
        simp only [ev] at H
        exact wpIn_scope (H.ok (by simp) r ht a w hr hw)
  | rangeFunc g ps a b ih1 ih2 =>
    intro top o ann fr K h H r ht ho a' w hr hw
    cases o <;> cases top <;> cases ann <;> first | (simp [ev] at H; done) | exact join_ok H ht hr hw | skip
    have := ht rfl
    subst this
    simp only [ev] at H
    split at H
    · rename_i gv hg
      exact rangeK_ok H (hr.ev hg) (hr.mask _) hw
    · exact H.elim
  | seq x y ihx ihy =>
    intro top o ann fr K h H r ht ho a w hr hw
    have two : ∀ {o' : Option Nat} {keep : Nat} {p q : Ann}, ev P top o' x p fr (seqK (fun fr h => ev P top none y q (fr.mask keep) K h) K) h → (∀ l, o' = some l → hasLabel x l = true) →
        (Code.seq (codeAt x o') y).wpIn (RF r) 0 P (PostOf (hasRange (.seq x y)) K a w) a w := by
      intro o' keep p q H ho'
      refine wpIn_seq (wpIn_mono (ihx H ht ho' hr hw) ?_)
      rintro e a' w' ⟨hd, hs, ex, fr', rfl, hr', hK⟩
      have h1 : hasRange (.seq x y) = false → hasRange x = false := by simp [hasRange]; intro h _; exact h
      have h2 : hasRange (.seq x y) = false → hasRange y = false := by simp [hasRange]
      cases ex with
      | normal => exact wpIn_mono (ihy hK ht (by simp) (hr'.mask _) rfl) fun _ _ _ h => PostOf.then_ hd hs h1 h2 h
      | exit id => exact PostOf.weaken (e := Exit.exit id) h1 ⟨hd, hs, .exit id, fr', rfl, hr', hK⟩
      | ret => exact PostOf.weaken (e := Exit.ret) h1 ⟨hd, hs, .ret, fr', rfl, hr', hK⟩
      | goto l => exact PostOf.weaken (e := Exit.goto l) h1 ⟨hd, hs, .goto l, fr', rfl, hr', hK⟩
    cases o with
    | none =>
      cases ann <;> first | (simp [ev] at H; done) | exact join_ok H ht hr hw | skip
      simp only [ev] at H
      exact two H (by simp)
    | some l =>
      cases ann <;> first | (simp [ev] at H; done) | exact join_ok H ht hr hw | skip
      simp only [ev] at H
      split at H
      · rename_i hl
        have := two H (fun l' e => by cases e; exact hl)
        obtain ⟨rest, hrest⟩ := hasLabel_iff.1 hl
        have e : codeAt (.seq x y) (some l) = .seq (codeAt x (some l)) y := by simp [codeAt, findLabel, hrest]
        rw [e]; exact this
      · rename_i hl
        have hn := hasLabel_false hl
        have hly : hasLabel y l = true := by
          have := ho l rfl
          rw [hasLabel_iff] at this ⊢
          obtain ⟨q, hq⟩ := this
          simp only [findLabel, hn] at hq
          exact ⟨q, hq⟩
        have e : codeAt (.seq x y) (some l) = codeAt y (some l) := by simp [codeAt, findLabel, hn]
        rw [e]
        exact wpIn_mono (ihy H ht (fun l' e => by cases e; exact hly) hr hw) fun _ _ _ h => PostOf.weaken (by simp [hasRange]) h
  | cond c x y ihx ihy =>
    intro top o ann fr K h H r ht ho a w hr hw
    cases o <;> cases ann <;> first | (simp [ev] at H; done) | exact join_ok H ht hr hw | skip
    simp only [ev] at H
    split at H
    · rename_i t htt
      cases t with
      | true => exact wpIn_cond_true (hr.ev htt) (wpIn_mono (ihx H ht (by simp) hr hw) fun _ _ _ h => PostOf.weaken (by simp [hasRange]; intro h _; exact h) h)
      | false => exact wpIn_cond_false (hr.ev htt) (wpIn_mono (ihy H ht (by simp) hr hw) fun _ _ _ h => PostOf.weaken (by simp [hasRange]) h)
    · exact H.elim
  | block id c ih =>
    intro top o ann fr K h H r ht ho a w hr hw
    cases o <;> cases ann <;> first | (simp [ev] at H; done) | exact join_ok H ht hr hw | skip
    simp only [ev] at H
    refine wpIn_block (wpIn_mono (ih H ht (by simp) hr hw) ?_)
    rintro e a' w' ⟨hd, hs, ex, fr', rfl, hr', hK⟩
    cases ex with
    | normal => exact ⟨hd, hs, .normal, fr', rfl, hr', hK⟩
    | exit id' =>
      simp only [blockK] at hK
      show (if id' = id then _ else _)
      by_cases hid : id' = id
      · rw [if_pos hid]; rw [decide_eq_true hid] at hK; exact ⟨hd, hs, .normal, fr', rfl, hr', hK⟩
      · rw [if_neg hid]; rw [decide_eq_false hid] at hK; exact ⟨hd, hs, .exit id', fr', rfl, hr', hK⟩
    | ret => exact ⟨hd, hs, .ret, fr', rfl, hr', hK⟩
    | goto l => exact ⟨hd, hs, .goto l, fr', rfl, hr', hK⟩
  | loop c ih =>
    intro top o ann fr K h H r ht ho a w hr hw
    cases o <;> cases ann <;> first | (simp [ev] at H; done) | exact join_ok H ht hr hw | skip
    simp only [ev] at H
    intro b k cs hro hb hrm
    obtain ⟨e, a', w', hq, harr⟩ := H.ok r ht a w (hr.mask _) hw b k cs hro
    exact ⟨e, a', w', hq, .of_steps (.one (fenced_calm hb hrm rfl) stepR_loop) harr⟩
  | region id ops draw =>
    intro top o ann fr K h H r ht ho a w hr hw
    cases o <;> cases ann <;> first | (simp [ev] at H; done) | exact join_ok H ht hr hw | skip
    · simp only [ev] at H
      cases draw with
      | false =>
        simp only at H
        split at H
        · rename_i hd
          refine wpIn_region ?_
          rw [← of_decide_eq_true hd]
          refine evSegs_ok _ H hr hw ?_
          intro a' w' fr' hd hs hr' hK
          exact PostOf.plain (ex := .normal) hd hs hr' hK
        · exact H.elim
      | true =>
        simp only at H
        split at H
        · split at H
          · rename_i l m hok
            obtain ⟨hm, H⟩ := okOrd_ok hok H
            refine wpIn_region_any hm (evAny_ok _ H (a := a) (w := { w with drawn := w.drawn + 1 }) hr hw ?_)
            intro a' w' fr' hd hs hr' hK
            exact PostOf.plain (ex := .normal) hd ((same_drawn w _).trans hs) (hr'.mask _) hK
          · exact H.elim
        · exact H.elim
    · simp only [ev] at H
      split at H
      · split at H
        · rename_i hok
          obtain ⟨hm, H⟩ := okTree_ok hok H
          refine wpIn_region_any hm (evAny_ok _ H (a := a) (w := { w with drawn := w.drawn + 1 }) hr hw ?_)
          intro a' w' fr' hd hs hr' hK
          exact PostOf.plain (ex := .normal) hd ((same_drawn w _).trans hs) (hr'.mask _) hK
        · exact H.elim
      · exact H.elim
theorem Jn.of_ev {P : Program} {top : Bool} {c : Code} {x : Ann} {fr : Fr} {K : Ex → Fr → Heap → Prop} {h : Heap} (H : ev P top none c x fr K h) : Jn P top c fr K h :=
  ⟨fun r ht a w hr hw => ev_ok c H ht (by simp) hr hw⟩
/-- A round of a loop. -/
theorem Lp.of_ev {P : Program} {top : Bool} {c : Code} {x : Ann} {keep : Nat} {fr : Fr} {K : Ex → Fr → Heap → Prop} {h : Heap} (H : ev P top none c x fr (seqK (fun fr h => Lp P top c (fr.mask keep) K h) K) h) : Lp P top c fr K h := by
  refine ⟨fun r ht a w hr hw b k cs hro => ?_⟩
  obtain ⟨e, a1, w1, ⟨hd, hs, ex, fr1, rfl, hr1, hK⟩, harr⟩ := ev_ok c H ht (by simp) hr hw b (.inLoop c :: k) cs hro trivial (room_RF _ _)
  cases ex with
  | normal =>
    obtain ⟨e2, a2, w2, hp, harr2⟩ := hK.ok r ht a1 w1 (hr1.mask keep) rfl b k cs hro
    exact ⟨e2, a2, w2, PostOf.then_ hd hs id id hp, .of_steps (StepsIn.trans harr (.one (fenced_calm (n := 0) trivial (room_RF _ _) rfl) stepR_inLoop)) harr2⟩
  | exit id => exact ⟨_, a1, w1, ⟨hd, hs, .exit id, fr1, rfl, hr1, hK⟩, .pass (x := .inLoop c) rfl (fun _ _ => .inl (by simp [Ex.to])) harr⟩
  | ret => exact ⟨_, a1, w1, ⟨hd, hs, .ret, fr1, rfl, hr1, hK⟩, .pass (x := .inLoop c) rfl (fun _ _ => .inl (by simp [Ex.to])) harr⟩
  | goto l => exact ⟨_, a1, w1, ⟨hd, hs, .goto l, fr1, rfl, hr1, hK⟩, .pass (x := .inLoop c) rfl (fun _ _ => .inl (by simp [Ex.to])) harr⟩
/-- A scope, up to its end or to the next jump inside it. -/
theorem Sc.of_ev {P : Program} {top : Bool} {c : Code} {x : Ann} {keep : List (Nat × Nat)} {o : Option Nat} {fr : Fr} {K : Ex → Fr → Heap → Prop} {h : Heap} (H : ev P top o c x fr (scopeK c (fun l fr h => Sc P top c (some l) (fr.mask (keepOf keep l)) K h) K) h) : Sc P top c o fr K h := by
  refine ⟨fun ho r ht a w hr hw b k cs hro => ?_⟩
  obtain ⟨e, a1, w1, ⟨hd, hs, ex, fr1, rfl, hr1, hK⟩, harr⟩ := ev_ok c H ht ho hr hw b (.inScope c :: k) cs hro trivial (room_RF _ _)
  cases ex with
  | normal => exact ⟨_, a1, w1, ⟨hd, hs, .normal, fr1, rfl, hr1, hK⟩, scope_out trivial (room_RF _ _) (by simp [Ex.to]) harr⟩
  | exit id => exact ⟨_, a1, w1, ⟨hd, hs, .exit id, fr1, rfl, hr1, hK⟩, scope_out trivial (room_RF _ _) (by simp [Ex.to]) harr⟩
  | ret => exact ⟨_, a1, w1, ⟨hd, hs, .ret, fr1, rfl, hr1, hK⟩, scope_out trivial (room_RF _ _) (by simp [Ex.to]) harr⟩
  | goto l =>
    simp only [scopeK] at hK
    cases hl : hasLabel c l with
    | false =>
      rw [hl] at hK
      exact ⟨_, a1, w1, ⟨hd, hs, .goto l, fr1, rfl, hr1, hK⟩, scope_out trivial (room_RF _ _) (fun l' e => by simp only [Ex.to] at e; cases e; exact hasLabel_false hl) harr⟩
    | true =>
      rw [hl] at hK
      obtain ⟨rest, hrest⟩ := hasLabel_iff.1 hl
      obtain ⟨e2, a2, w2, hp, harr2⟩ := hK.ok (fun l' e => by cases e; exact hl) r ht a1 w1 (hr1.mask _) rfl b k cs hro
      refine ⟨e2, a2, w2, PostOf.then_ hd hs id id hp, .of_steps (harr.1 _ ?_) harr2⟩
      simp [gotoIn, hrest, codeAt]
#print axioms ev_ok
/-! ### A function -/
def loadRes (P : Program) (fr : Fr) : List ResultVar → (List Value → Prop) → Heap → Prop
  | [], K, _ => K []
  | .tmp t :: l, K, h => match fr.get t with
    | some v => loadRes P fr l (fun vs => K (v :: vs)) h
    | none => False
  | .cell a t :: l, K, h => match fr.get a with
    | some (.pointer (some p)) => ldAt (shape1 P t) p (fun v h => loadRes P fr l (fun vs => K (v :: vs)) h) h
    | _ => False
def resV : List Value → Value
  | [v] => v
  | vs => .tuple vs.toArray
def bodyK (P : Program) (fn : Func) (Q : Value → Heap → Prop) : Ex → Fr → Heap → Prop
  | .normal, fr, h | .ret, fr, h => loadRes P fr fn.results.toList (fun vs => Q (resV vs) h) h
  | _, _, _ => False
def initFr (n : Nat) : List Value → Fr
  | [] => List.replicate n none
  | v :: l => match n with
    | 0 => []
    | n + 1 => some v :: initFr n l

/-- A program that leaves the world as it was. -/
def Qt {α : Type} (P : Program) (s : Sem α) : Prop := ∀ w a w', s.run P w = .ok a w' → w' = w
theorem Qt.pure {α : Type} {P : Program} (a : α) : Qt P (Pure.pure a : Sem α) := by intro w b w' h; simp at h; exact h.2.symm
theorem Qt.bind {α β : Type} {P : Program} {s : Sem α} {f : α → Sem β} (hs : Qt P s) (hf : ∀ a, Qt P (f a)) : Qt P (s >>= f) := by
  intro w b w' h
  rw [Sem.run_bind] at h
  cases hr : s.run P w with
  | ok a w1 => rw [hr] at h; exact (hf a _ _ _ h).trans (hs _ _ _ hr)
  | halt x w1 => rw [hr] at h; simp [Result.andThen] at h
theorem Qt.halt {α : Type} {P : Program} (x : Halt) : Qt P (Sem.halt x : Sem α) := by intro w b w' h; simp at h
theorem Qt.program {P : Program} : Qt P Go.program := by intro w b w' h; simp at h; exact h.2.symm
theorem Qt.load {P : Program} (a : Addr) : Qt P (Go.load a) := by
  intro w b w' h
  simp only [Go.load, Sem.run] at h
  split at h
  · cases h; rfl
  · split at h <;> cases h; rfl
theorem Qt.ite {α : Type} {P : Program} {c : Prop} [Decidable c] {s t : Sem α} (hs : Qt P s) (ht : Qt P t) : Qt P (if c then s else t) := by split <;> assumption
theorem Qt.underlying {P : Program} (t : TypeId) : Qt P (Go.underlying t) := by
  unfold Go.underlying
  refine Qt.bind Qt.program fun p => ?_
  split
  · exact Qt.pure _
  · exact Qt.halt _
theorem Qt.typeInfo {P : Program} (t : TypeId) : Qt P (Go.typeInfo t) := by
  unfold Go.typeInfo
  refine Qt.bind Qt.program fun p => ?_
  split
  · exact Qt.pure _
  · exact Qt.halt _
theorem Qt.loadCellsFrom {P : Program} (a : Addr) (n : Nat) : ∀ i acc, Qt P (Go.loadCellsFrom a i n acc) := by
  induction n with
  | zero => exact fun _ _ => Qt.pure _
  | succ n ih => exact fun i acc => Qt.bind (Qt.load _) fun v => ih _ _
theorem Qt.loadVar {P : Program} (t : TypeId) (a : Addr) : Qt P (Go.loadVar t a) := by
  unfold Go.loadVar
  refine Qt.bind ?_ fun b => Qt.ite (Qt.bind (Qt.bind (Qt.typeInfo t) fun _ => Qt.pure _) fun n => Qt.bind (Qt.loadCellsFrom _ _ _ _) fun _ => Qt.pure _) (Qt.load a)
  unfold isAgg
  refine Qt.bind (Qt.underlying t) fun d => ?_
  split <;> exact Qt.pure _
theorem Qt.runtimePanic {α : Type} {P : Program} : Qt P (Go.runtimePanic .nilDeref : Sem α) := by
  refine Qt.bind Qt.program fun p => ?_
  exact Qt.halt _
theorem Qt.mapM {α β : Type} {P : Program} {f : α → Sem β} (hf : ∀ a, Qt P (f a)) (l : List α) : Qt P (l.mapM f) := by
  induction l with
  | nil => exact Qt.pure _
  | cons x l ih => rw [List.mapM_cons]; exact Qt.bind (hf x) fun b => Qt.bind ih fun bs => Qt.pure _

/-- How the model reads one result. -/
def readRes (tmps : Array Value) : ResultVar → Sem Value
  | .tmp t => pure (tmps.getD t undef)
  | .cell r t => do loadVar t (← asAddr (tmps.getD r undef))
theorem Qt.readRes {P : Program} (tmps : Array Value) (x : ResultVar) : Qt P (readRes tmps x) := by
  cases x with
  | tmp t => exact Qt.pure _
  | cell r t =>
    refine Qt.bind ?_ fun a => Qt.loadVar t a
    unfold asAddr
    split
    · exact Qt.pure _
    · exact Qt.runtimePanic
    · exact Qt.halt _
theorem results_eq (fn : Func) (tmps : Array Value) : results fn tmps = (do
    let vs ← fn.results.toList.mapM (readRes tmps)
    pure (resV vs)) := by
  unfold results
  have e : (fun x : ResultVar => match x with | .tmp t => (pure (tmps.getD t undef) : Sem Value) | .cell a t => do loadVar t (← asAddr (tmps.getD a undef))) = readRes tmps := by
    funext x; cases x <;> rfl
  rw [Array.mapM_eq_mapM_toList]
  simp only [map_eq_pure_bind, bind_assoc, pure_bind]
  congr 1
  funext vs
  congr 1
  cases vs with
  | nil => rfl
  | cons x vs => cases vs <;> rfl

theorem loadRes_ok {P : Program} {fr : Fr} {a : Act} (hr : FrRel fr a.tmps) (l : List ResultVar) : ∀ {K : List Value → Prop} {h : Heap}, loadRes P fr l K h →
    hwp P (l.mapM (readRes a.tmps)) (fun vs h' => K vs) h := by
  induction l with
  | nil => intro K h H; exact H
  | cons x l ih =>
    intro K h H
    rw [List.mapM_cons]
    cases x with
    | tmp t =>
      simp only [loadRes] at H
      split at H
      · rename_i v hv
        have e : a.tmps.getD t undef = v := by simp [Array.getD_eq_getD_getElem?, hr.2 _ _ hv]
        refine (hwp_bind' _ _ _ _).2 ?_
        simp only [readRes, hwp_pure, e]
        refine (hwp_bind' _ _ _ _).2 (hwp_mono _ ?_ (ih H))
        intro vs h' hk; exact hk
      · exact H.elim
    | cell r t =>
      simp only [loadRes] at H
      split at H
      · rename_i p hv
        have e : a.tmps.getD r undef = .pointer (some p) := by simp [Array.getD_eq_getD_getElem?, hr.2 _ _ hv]
        refine (hwp_bind' _ _ _ _).2 ?_
        simp only [readRes, e]
        show hwp P (loadVar t p) _ h
        refine hwp_mono _ ?_ (ldAt_ok H)
        intro v h' hk
        refine (hwp_bind' _ _ _ _).2 (hwp_mono _ ?_ (ih hk))
        intro vs h' hk; exact hk
      · exact H.elim

theorem initFr_rel (n : Nat) (args : List Value) : FrRel (initFr n args) (args.toArray ++ Array.replicate (n - args.length) undef) := by
  have hl : ∀ (n : Nat) (l : List Value), (initFr n l).length ≤ n := by
    intro n l
    induction l generalizing n with
    | nil => simp [initFr]
    | cons v l ih => cases n with
      | zero => simp [initFr]
      | succ n => simp [initFr]; exact ih n
  have hg : ∀ (l : List Value) (n i : Nat) (v : Value), (initFr n l).get i = some v → l[i]? = some v := by
    intro l
    induction l with
    | nil =>
      intro n i v h
      simp only [initFr] at h
      exfalso
      induction n generalizing i with
      | zero => simp [Fr.get] at h
      | succ n ih => cases i with
        | zero => simp [List.replicate_succ, Fr.get] at h
        | succ i => exact ih i (by simpa [List.replicate_succ, Fr.get] using h)
    | cons u l ih =>
      intro n i v h
      cases n with
      | zero => simp [initFr, Fr.get] at h
      | succ n => cases i with
        | zero => simpa [initFr, Fr.get] using h
        | succ i => simpa using ih n i v (by simpa [initFr, Fr.get] using h)
  refine ⟨?_, fun i v h => ?_⟩
  · have := hl n args
    simp; omega
  · have := hg args n i v h
    have hlt : i < args.length := by
      rcases Nat.lt_or_ge i args.length with h | h
      · exact h
      · rw [List.getElem?_eq_none h] at this; simp at this
    rw [Array.getElem?_append_left (by simpa using hlt)]
    simpa using this

/-- THE DOOR: what the evaluator reckons of a function's text is a contract of the function. -/
theorem spec_of_ev {P : Program} {f : FuncId} {fn : Func} {c : Code} {ann : Ann} {args : List Value} {h : Heap} {Q : Value → Heap → Prop}
    (hf : P.funcs[f]? = some fn) (hb : fn.body = some c) (hn : hasRange c = false) (H : ev P true none c ann (initFr fn.ntmps args) (bodyK P fn Q) h) : SpecH P f args h Q := by
  intro w hw
  refine (callsIn_wide (n := 0)).1 (callsIn_of_wp (F := RF none) hf hb trivial ?_)
  have hr := initFr_rel fn.ntmps args
  refine wpIn_mono (ev_ok c H (r := none) (fun _ => rfl) (by simp) (a := ⟨args.toArray ++ Array.replicate (fn.ntmps - args.toArray.size) undef, []⟩) (by simpa using hr) hw) ?_
  rintro e a w' ⟨⟨ds, hd, _, hz⟩, hs, ex, fr, rfl, hr', hK⟩
  have hd0 : a.defers = [] := by rw [hd, hz hn]; rfl
  have fin : loadRes P fr fn.results.toList (fun vs => Q (resV vs) w'.heap) w'.heap → ∃ v, (results fn a.tmps).run P w' = .ok v w' ∧ ∃ v', Ending.returned v = .returned v' ∧ Same w w' ∧ Q v' w'.heap := by
    intro hl
    have h1 := loadRes_ok (P := P) hr' _ hl
    obtain ⟨vs, w2, hrun, hs2, hq⟩ := hwp_sound _ h1 w' rfl
    have hw2 : w2 = w' := Qt.mapM (Qt.readRes _) _ _ _ _ hrun
    subst hw2
    refine ⟨resV vs, ?_, _, rfl, hs, hq⟩
    rw [results_eq, Sem.run_bind, hrun]
    rfl
  cases ex with
  | normal => exact ⟨hd0, fin hK⟩
  | ret => exact ⟨hd0, fin hK⟩
  | exit id => exact hK.elim
  | goto l => exact hK.elim

/-! ### A function that ranges over a function -/
/-- Blocks for deferred calls of rounds may have been shut. -/
def Takes (h h' : Heap) : Prop := h'.size = h.size ∧ ∀ i : Nat, h'[i]? = h[i]? ∨ ∃ x y, h[i]? = some (.deferred x) ∧ h'[i]? = some (.deferred y)
theorem Takes.refl (h : Heap) : Takes h h := ⟨rfl, fun _ => .inl rfl⟩
theorem Takes.trans {a b c : Heap} (h : Takes a b) (k : Takes b c) : Takes a c := by
  refine ⟨k.1.trans h.1, fun i => ?_⟩
  rcases k.2 i with e | ⟨x, y, e1, e2⟩
  · rcases h.2 i with e' | ⟨x, y, e1, e2⟩
    · exact .inl (e.trans e')
    · exact .inr ⟨x, y, e1, e.trans e2⟩
  · rcases h.2 i with e' | ⟨x', y', e1', e2'⟩
    · exact .inr ⟨x, y, e' ▸ e1, e2⟩
    · exact .inr ⟨x', y, e1', e2⟩
theorem Takes.set {h : Heap} {D : Nat} {x : Option (List Deferred)} (hD : h[D]? = some (.deferred x)) (y : Option (List Deferred)) : Takes h (h.setIfInBounds D (.deferred y)) := by
  refine ⟨by simp, fun i => ?_⟩
  by_cases hi : D = i
  · subst hi
    exact .inr ⟨x, y, hD, by rw [Array.getElem?_setIfInBounds_self_of_lt (Array.getElem?_eq_some_iff.1 hD).1]⟩
  · exact .inl (Array.getElem?_setIfInBounds_ne hi)
theorem Takes.get {h h' : Heap} (t : Takes h h') {i : Nat} {o : Obj} (e : h[i]? = some o) (hd : isDef o = false) : h'[i]? = some o := by
  rcases t.2 i with e' | ⟨x, y, e1, e2⟩
  · exact e'.trans e
  · rw [e] at e1; cases e1; simp [isDef] at hd
theorem Takes.cell {h h' : Heap} (t : Takes h h') {a : Addr} {v : Value} (e : cellH h a = some v) : cellH h' a = some v := by
  unfold cellH wOf World.cell? at *
  simp only at *
  split at e
  · rename_i c ty f hc; rw [t.get hc rfl]; exact e
  · simp at e
theorem rdCells_takes {h h' : Heap} (t : Takes h h') {a : Addr} : ∀ {l : List Value} {i : Nat}, rdCells h a i l → rdCells h' a i l := by
  intro l
  induction l with
  | nil => exact fun _ => trivial
  | cons v l ih => exact fun ⟨e, r⟩ => ⟨t.cell e, ih r⟩
theorem ldAt_takes {h h' : Heap} (t : Takes h h') {s : Shape} {a : Addr} {K : Value → Heap → Prop} {K' : Value → Heap → Prop} (hk : ∀ v, K v h → K' v h') (H : ldAt s a K h) : ldAt s a K' h' := by
  cases s with
  | leaf l => exact exLeaf_mono (G := fun v => cellH h' a = some v ∧ K' v h') (fun v (hv : cellH h a = some v ∧ K v h) => ⟨t.cell hv.1, hk _ hv.2⟩) H
  | agg ls => exact exLeaves_mono (G := fun vs => rdCells h' a 0 vs ∧ K' (.agg vs.toArray) h') (fun vs (hv : rdCells h a 0 vs ∧ K (.agg vs.toArray) h) => ⟨rdCells_takes t hv.1, hk _ hv.2⟩) H
  | big n => obtain ⟨cs, h1, h2, h3⟩ := H; exact ⟨cs, h1, rdCells_takes t h2, hk _ h3⟩
  | tup ss => exact H.elim
  | next => exact H.elim
  | flag => exact H.elim
  | any => exact H.elim
theorem loadRes_takes {P : Program} {fr : Fr} {h h' : Heap} (t : Takes h h') (l : List ResultVar) : ∀ {K : List Value → Prop}, loadRes P fr l K h → loadRes P fr l K h' := by
  induction l with
  | nil => exact fun H => H
  | cons x l ih =>
    intro K H
    cases x with
    | tmp i =>
      simp only [loadRes] at H ⊢
      split at H
      · exact ih H
      · exact H
    | cell a ty =>
      simp only [loadRes] at H ⊢
      split at H
      · exact ldAt_takes t (fun v hv => ih hv) H
      · exact H

theorem run_takeDeferred {P : Program} {w : World} {D : Nat} (h : w.heap[D]? = some (.deferred (some []))) :
    (Instr.takeDeferred D).run P w = .ok [] { w with heap := w.heap.setIfInBounds D (.deferred none) } := by
  simp only [Instr.takeDeferred, Sem.run_bind, getObj, setObj, Sem.run, h, Result.andThen, pure]

theorem leaves_marks {P : Program} {fn : Func} {tmps : Array Value} {R : Ending → World → Prop} {base : Nat} : ∀ (ds : List Deferred) (w : World), Marks base ds w.heap →
    (∀ w', Takes w.heap w'.heap → (∀ i, i < base → w'.heap[i]? = w.heap[i]?) → w'.os = w.os → w'.tape = w.tape → w'.output = w.output → ∃ v, (results fn tmps).run P w' = .ok v w' ∧ R (.returned v) w') →
    LeavesInM (RF none) 0 P fn tmps R ds .returning w := by
  intro ds
  induction ds with
  | nil => intro w _ hR; exact hR w (.refl _) (fun _ _ => rfl) rfl rfl rfl
  | cons d ds ih =>
    intro w hm hR
    obtain ⟨D, rfl, hb, hD, hn, hm⟩ := hm
    refine ⟨by simp, .inl ⟨D, _, rfl, run_takeDeferred hD, ih _ ?_ ?_⟩⟩
    · clear ih hR
      induction ds with
      | nil => trivial
      | cons e es ihe =>
        obtain ⟨D', rfl, hb', hD', hn', hm'⟩ := hm
        have hne : D ≠ D' := fun hh => hn { target := .collected D', args := #[] } (List.mem_cons_self ..) (by rw [hh])
        exact ⟨D', rfl, hb', by rw [Array.getElem?_setIfInBounds_ne hne]; exact hD', hn', ihe (fun d' hd' => hn d' (by simp [hd'])) hm'⟩
    · intro w' ht hlow ho htp hou
      refine hR w' ((Takes.set hD none).trans ht) (fun i hi => ?_) ho htp hou
      rw [hlow i hi]
      exact Array.getElem?_setIfInBounds_ne (by omega)

def bodyKR (P : Program) (fn : Func) (Q : Value → Heap → Prop) : Ex → Fr → Heap → Prop
  | .normal, fr, h | .ret, fr, h => loadRes P fr fn.results.toList (fun vs => ∀ h', Takes h h' → Q (resV vs) h') h
  | _, _, _ => False
theorem loadRes_mono {P : Program} {fr : Fr} {h : Heap} (l : List ResultVar) : ∀ {K K' : List Value → Prop}, (∀ vs, K vs → K' vs) → loadRes P fr l K h → loadRes P fr l K' h := by
  induction l with
  | nil => exact fun hk H => hk _ H
  | cons x l ih =>
    intro K K' hk H
    cases x with
    | tmp i =>
      simp only [loadRes] at H ⊢
      split at H
      · exact ih (fun vs => hk _) H
      · exact H
    | cell a ty =>
      simp only [loadRes] at H ⊢
      split at H
      · exact ldAt_mono (fun v hv => ih (fun vs => hk _) hv) H
      · exact H
theorem spec_of_evR {P : Program} {f : FuncId} {fn : Func} {c : Code} {ann : Ann} {args : List Value} {h : Heap} {Q : Value → Heap → Prop}
    (hf : P.funcs[f]? = some fn) (hb : fn.body = some c) (H : ev P true none c ann (initFr fn.ntmps args) (bodyKR P fn Q) h) : SpecH P f args h Q := by
  intro w hw
  refine (callsIn_wide (n := 0)).1 (callsIn_of_wp_marks (F := RF none) hf hb trivial ?_)
  have hr := initFr_rel fn.ntmps args
  refine wpIn_mono (ev_ok c H (r := none) (fun _ => rfl) (by simp) (a := ⟨args.toArray ++ Array.replicate (fn.ntmps - args.toArray.size) undef, []⟩) (by simpa using hr) hw) ?_
  rintro e a w' ⟨⟨ds, hd, hm, _⟩, hs, ex, fr, rfl, hr', hK⟩
  have hd0 : a.defers = ds := by rw [hd]; simp
  have fin : loadRes P fr fn.results.toList (fun vs => ∀ h', Takes w'.heap h' → Q (resV vs) h') w'.heap → LeavesInM (RF none) 0 P fn a.tmps (fun e w'' => ∃ v', e = Ending.returned v' ∧ Same w w'' ∧ Q v' w''.heap) a.defers .returning w' := by
    intro hl
    rw [hd0]
    refine leaves_marks ds w' hm ?_
    intro w2 ht hlow ho htp hou
    have hl2 := loadRes_mono (K' := fun vs => Q (resV vs) w2.heap) _ (fun vs hv => hv _ ht) (loadRes_takes ht _ hl)
    have h1 := loadRes_ok (P := P) hr' _ hl2
    obtain ⟨vs, w3, hrun, hs3, hq⟩ := hwp_sound _ h1 w2 rfl
    have hw3 : w3 = w2 := Qt.mapM (Qt.readRes _) _ _ _ _ hrun
    subst hw3
    refine ⟨resV vs, ?_, _, rfl, ⟨ho.trans hs.os, htp.trans hs.tape, hou.trans hs.output, fun i o e hd' => ?_, by rw [ht.1]; exact hs.size⟩, hq⟩
    · rw [results_eq, Sem.run_bind, hrun]
      rfl
    · have hlt : i < w.heap.size := (Array.getElem?_eq_some_iff.1 e).1
      rw [hlow i hlt]; exact hs.defs i o e hd'
  cases ex with
  | normal => exact fin hK
  | ret => exact fin hK
  | exit id => exact hK.elim
  | goto l => exact hK.elim

/-! ### A round -/
def setAll (fr : Fr) : List (Tmp × Value) → Fr
  | [] => fr
  | (t, v) :: l => setAll (fr.set t v) l
theorem setAll_rel : ∀ (l : List (Tmp × Value)) {fr : Fr} {tmps : Array Value}, FrRel fr tmps → FrRel (setAll fr l) (l.foldl (fun tmps (t, a) => tmps.setIfInBounds t a) tmps) := by
  intro l
  induction l with
  | nil => exact fun h => h
  | cons x l ih => obtain ⟨t, v⟩ := x; exact fun h => ih (h.set t v)

theorem run_endRound {P : Program} {w : World} {l : Nat} {L : Loop} (h : w.heap[l]? = some (.loop L)) (p : Option Code) :
    (Instr.endRound l p).run P w = .ok (.bool p.isNone) { w with heap := w.heap.setIfInBounds l (endL L p) } := by
  cases p <;> simp only [Instr.endRound, Instr.getLoop, Sem.run_bind, getObj, setObj, Sem.run, h, Result.andThen, pure] <;> rfl
theorem run_beginRound {P : Program} {w : World} {l : Nat} {L : Loop} (h : w.heap[l]? = some (.loop L)) (hb : L.state = .ready) :
    (Instr.beginRound l).run P w = .ok () { w with heap := w.heap.setIfInBounds l (.loop { L with state := .busy }) } := by
  simp only [Instr.beginRound, Instr.getLoop, Sem.run_bind, getObj, setObj, Sem.run, h, Result.andThen, pure, hb]

/-- What follows the assignment at a round's head. -/
def roundK (P : Program) (l : Nat) (body : Code) (annB : Ann) (m : Nat) (K : Value → Heap → Prop) : Ex → Fr → Heap → Prop :=
  fun e fr1 h1 => match e with
    | .normal => ∃ L1, h1[l]? = some (.loop L1) ∧ L1.state = .ready ∧ ev P false none body annB (fr1.mask m) (roundEnd l K) (h1.setIfInBounds l (.loop { L1 with state := .busy }))
    | _ => False
/-- YIELD: the assignment and the body, walked in a round. -/
theorem yield_ok {P : Program} {l : Nat} {L : Loop} {fr : Fr} {args : List Value} {K : Value → Heap → Prop} {h : Heap} {ann annB : Ann} {m : Nat} (hl : h[l]? = some (.loop L)) (hn : args.length = L.params.size) (hf : FrRel fr L.tmps)
    (H : ev P false none L.assign ann (setAll fr (L.params.toList.zip args)) (roundK P l L.body annB m K) h) : callV P (.func (.yield l) #[] #[]) args K h := by
  show hwp P (Instr.yield l (#[] ++ args.toArray)) (nextK P K) h
  unfold Instr.yield
  refine (hwp_bind' _ _ _ _).2 ((hwp_bind' _ _ _ _).2 ⟨_, hl, rfl, ?_⟩)
  show hwp P (if _ then _ else _) _ h
  rw [if_neg (by simp [hn])]
  intro w hw
  have hz : ((L.params.zip (#[] ++ args.toArray)).foldl (fun tmps (t, a) => tmps.setIfInBounds t a) L.tmps) = (L.params.toList.zip args).foldl (fun tmps (t, a) => tmps.setIfInBounds t a) L.tmps := by
    rw [← Array.foldl_toList]; simp
  show RoundIn Fence.wide 0 P l L.fn ((L.params.zip (#[] ++ args.toArray)).foldl (fun tmps (t, a) => tmps.setIfInBounds t a) L.tmps) L.assign L.body w _
  rw [hz]
  refine roundIn_of_wpIn (F := Fence.wide) trivial ?_
  refine wpIn_mono (ev_ok L.assign H (r := some l) (by simp) (by simp) (a := ⟨_, []⟩) (setAll_rel _ hf) hw) ?_
  rintro e a1 w1 ⟨_, hs, ex, fr1, rfl, hr1, hK⟩
  cases ex with
  | normal =>
    obtain ⟨L1, hl1, hb1, hK⟩ := hK
    refine ⟨_, run_beginRound hl1 hb1, ?_⟩
    have hs2 : Same w1 { w1 with heap := w1.heap.setIfInBounds l (.loop { L1 with state := .busy }) } := same_set hl1 rfl _
    refine wpIn_mono (ev_ok L.body hK (r := some l) (by simp) (by simp) (a := a1) (w := { w1 with heap := w1.heap.setIfInBounds l (.loop { L1 with state := .busy }) }) (hr1.mask m) rfl) ?_
    rintro e2 a2 w2 ⟨_, hs3, ex2, fr2, rfl, hr2, hK2⟩
    obtain ⟨L2, hl2, hK2⟩ := hK2
    have fin : ∀ p : Option Code, K (.bool p.isNone) (w2.heap.setIfInBounds l (endL L2 p)) → ∃ v w', (Instr.endRound l p).run P w2 = .ok v w' ∧ ∃ v', Ending.returned v = .returned v' ∧ Same w w' ∧ K v' w'.heap := by
      intro p hk
      exact ⟨_, _, run_endRound hl2 p, _, rfl, hs.trans (hs2.trans (hs3.trans (same_set hl2 rfl _))), hk⟩
    cases ex2 with
    | normal => exact fin none hK2
    | ret => exact fin (some .ret) hK2
    | exit id => exact fin (some (.exit id)) hK2
    | goto t => exact fin (some (.goto t)) hK2
  | exit id => exact hK.elim
  | ret => exact hK.elim
  | goto t => exact hK.elim
#print axioms spec_of_ev
#print axioms spec_of_evR
#print axioms yield_ok
end Go.HW

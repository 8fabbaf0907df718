/- Texts of the proof, laid together: Heaps taken apart: assertions on parts of a heap, side by side.; Numbers of the model that are no less than nought, as natural numbers.; From the row's reading of arguments, of whatever plain type, to rows of cells in the first heap.; Maps of the model, as lists of pairs without a key twice.; Plain law of bytes as the digits of a number, the lowest first.; Strings and their bytes.; Slices of rows of several cells: made, cut, an element written.; Arrays: an element, a slice of the whole, equality; a literal's bytes.; What a printed text (gen2.py) leans on: short names, places in code as numbers, a text proved against its evaluation.; A frame that is kept over a range over a function: the exact objects.; A part of a slice of rows.; Some of the first n parts, in a new order; the others of them are let go.; Functions that defer, and functions that recover: contracts over heaps, and their doors.; append that must grow: the elder row stays as it is.; append that must grow: the new row, its room too.; Rows made longer by so many zeros: append(s, make(..)...).; Packages that are merged level by level: of any sorted levels the first ones make a whole code (plain lists, no program).; Readers of bits as trees of calls: what one tells is the same behind more bits, and under another bound (plain; no program).; Canonical codes: what is laid by a list of lengths is read by it (plain; no program).; What is inflated: the form's readers, and rows of bits that they read (plain; no program).; Merging in place by turning parts round: what becomes sorted (plain; over the kit's words PermIn, SortedIn, SWO).; What merged packages come to: lengths of codes that make a whole code (plain).; Inflating whole rows of bytes: parts, bounds, stored blocks (plain). -/
import Derived.Test.YtmkjmmpldepknaaDoorP1
import Derived.SizedLaws
import Derived.DefersIn
import Derived.RecoverIn
import Derived.Sort.AssemblyPlain
set_option linter.unusedVariables false
set_option linter.unusedSimpArgs false
set_option linter.unusedSectionVars false
namespace Go.HW
open Go

abbrev PM := Nat → Option Obj
abbrev Assn := PM → Prop
def Dj (m m' : PM) : Prop := ∀ b, m b = none ∨ m' b = none
def Sub (m m' : PM) : Prop := ∀ b o, m b = some o → m' b = some o
theorem Sub.refl (m : PM) : Sub m m := fun _ _ h => h
theorem Sub.trans {a b c : PM} (h : Sub a b) (k : Sub b c) : Sub a c := fun x o e => k x o (h x o e)
theorem Dj.symm {a b : PM} (h : Dj a b) : Dj b a := fun x => (h x).symm
theorem Dj.sub {a b c : PM} (h : Dj a b) (k : Sub c b) : Dj a c := fun x => (h x).imp id fun e => by
 cases hc : c x with
 | none => rfl
 | some o => rw [k x o hc] at e; cases e
def Un (a b : PM) : PM := fun x => match a x with | some o => some o | none => b x
theorem Un.left (a b : PM) : Sub a (Un a b) := fun x o e => by simp [Un, e]
theorem Un.right {a b : PM} (h : Dj a b) : Sub b (Un a b) := fun x o e => by
 rcases h x with k | k
 ·simp [Un, k, e]
 ·rw [e] at k; cases k
theorem Un.dj {a b c : PM} (h : Dj a c) (k : Dj b c) : Dj (Un a b) c := fun x => by
 rcases h x with e | e
 ·rcases k x with f | f
  ·left; simp [Un, e, f]
  ·exact .inr f
 ·exact .inr e
theorem Un.sub {a b c : PM} (h : Sub a c) (k : Sub b c) : Sub (Un a b) c := fun x o e => by
 unfold Un at e
 split at e
 ·rename_i o' h'; cases e; exact h x _ h'
 ·exact k x o e

def Sp : List Assn → Assn
 | [], _ => True
 | A :: L, m => ∃ m1 m2, A m1 ∧ Sp L m2 ∧ Dj m1 m2 ∧ Sub m1 m ∧ Sub m2 m
theorem Sp.sub {L : List Assn} {m m' : PM} (h : Sp L m) (s : Sub m m') : Sp L m' := by
 cases L with
 | nil => trivial
 | cons A L => obtain ⟨m1, m2, a, b, c, d, e⟩ := h; exact ⟨m1, m2, a, b, c, d.trans s, e.trans s⟩
theorem Sp.swap {A B : Assn} {L : List Assn} {m : PM} (h : Sp (A :: B :: L) m) : Sp (B :: A :: L) m := by
 obtain ⟨m1, m2, a, ⟨m3, m4, b, l, d34, s3, s4⟩, d12, s1, s2⟩ := h
 have d13 : Dj m3 m1 := (d12.sub s3).symm
 have d14 : Dj m1 m4 := d12.sub s4
 exact ⟨m3, Un m1 m4, b, ⟨m1, m4, a, l, d14, Un.left _ _, Un.right d14⟩, (Un.dj d13.symm d34.symm).symm, s3.trans s2, Un.sub s1 (s4.trans s2)⟩
theorem Sp.cons {A B : Assn} {L M : List Assn} {m : PM} (ha : ∀ m, A m → B m) (hl : ∀ m, Sp L m → Sp M m) (h : Sp (A :: L) m) : Sp (B :: M) m := by
 obtain ⟨m1, m2, a, l, d, s1, s2⟩ := h; exact ⟨m1, m2, ha _ a, hl _ l, d, s1, s2⟩
theorem Sp.tl {A : Assn} {L : List Assn} {m : PM} (h : Sp (A :: L) m) : Sp L m := by
 obtain ⟨m1, m2, a, l, d, s1, s2⟩ := h; exact l.sub s2
theorem Sp.perm {L M : List Assn} (p : List.Perm L M) : ∀ {m : PM}, Sp L m → Sp M m := by
 induction p with
 | nil => exact fun h => h
 | cons x _ ih => exact fun h => Sp.cons (fun _ a => a) (fun _ => ih) h
 | swap x y l => exact fun h => Sp.swap h
 | trans _ _ ih1 ih2 => exact fun h => ih2 (ih1 h)
theorem Sp.app {L M : List Assn} : ∀ {m : PM}, Sp (L ++ M) m ↔ Sp (Sp L :: M) m := by
 induction L with
 | nil =>
  intro m
  refine ⟨fun h => ⟨fun _ => none, m, trivial, h, fun _ => .inl rfl, (fun _ _ e => nomatch e), .refl _⟩, fun h => Sp.tl h⟩
 | cons A L ih =>
  intro m
  constructor
  ·rintro ⟨m1, m2, a, l, d, s1, s2⟩
   obtain ⟨m3, m4, b, c, d34, s3, s4⟩ := ih.1 l
   refine ⟨Un m1 m3, m4, ⟨m1, m3, a, b, d.sub s3, Un.left _ _, Un.right (d.sub s3)⟩, c, Un.dj (d.sub s4) d34, Un.sub s1 (s3.trans s2), s4.trans s2⟩
  ·rintro ⟨m1, m2, ⟨m3, m4, a, l, d34, s3, s4⟩, c, d, s1, s2⟩
   have d32 : Dj m3 m2 := (d.symm.sub s3).symm
   have d42 : Dj m4 m2 := (d.symm.sub s4).symm
   exact ⟨m3, Un m4 m2, a, ih.2 ⟨m4, m2, l, c, d42, Un.left _ _, Un.right d42⟩, (Un.dj d34.symm d32.symm).symm, s3.trans s1, Un.sub (s4.trans s1) s2⟩

def Hs (h : Heap) (L : List Assn) : Prop := Sp L fun b => h[b]?
section
variable {h h' : Heap} {A B C D E G : Assn} {L M : List Assn}
theorem Hs.nil (h : Heap) : Hs h [] := trivial
theorem Hs.ext (H : Hs h L) (e : Ext h h') : Hs h' L := Sp.sub H e
theorem Hs.perm (H : Hs h L) (p : List.Perm L M) : Hs h M := Sp.perm p H
theorem Hs.tl (H : Hs h (A :: L)) : Hs h L := Sp.tl H
theorem Hs.mono (H : Hs h (A :: L)) (k : ∀ m, A m → B m) : Hs h (B :: L) := Sp.cons k (fun _ l => l) H
theorem Hs.mono_tl (H : Hs h (A :: L)) (k : ∀ m, Sp L m → Sp M m) : Hs h (A :: M) := Sp.cons (fun _ a => a) k H
theorem Hs.m1 (H : Hs h (A :: B :: L)) : Hs h (B :: A :: L) := Sp.swap H
theorem Sp.m2 {A0 B0 C0 : Assn} {L : List Assn} {m : PM} (h : Sp (A0 :: B0 :: C0 :: L) m) : Sp (C0 :: A0 :: B0 :: L) m := Sp.swap (Sp.cons (fun _ a => a) (fun _ l => Sp.swap l) h)
theorem Sp.r2 {A0 B0 C0 : Assn} {L : List Assn} {m : PM} (h : Sp (A0 :: B0 :: C0 :: L) m) : Sp (B0 :: C0 :: A0 :: L) m := Sp.cons (fun _ a => a) (fun _ l => Sp.swap l) (Sp.swap h)
theorem Sp.m3 {A0 B0 C0 D0 : Assn} {L : List Assn} {m : PM} (h : Sp (A0 :: B0 :: C0 :: D0 :: L) m) : Sp (D0 :: A0 :: B0 :: C0 :: L) m := Sp.swap (Sp.cons (fun _ a => a) (fun _ l => Sp.m2 l) h)
theorem Sp.r3 {A0 B0 C0 D0 : Assn} {L : List Assn} {m : PM} (h : Sp (A0 :: B0 :: C0 :: D0 :: L) m) : Sp (B0 :: C0 :: D0 :: A0 :: L) m := Sp.cons (fun _ a => a) (fun _ l => Sp.r2 l) (Sp.swap h)
theorem Sp.m4 {A0 B0 C0 D0 E0 : Assn} {L : List Assn} {m : PM} (h : Sp (A0 :: B0 :: C0 :: D0 :: E0 :: L) m) : Sp (E0 :: A0 :: B0 :: C0 :: D0 :: L) m := Sp.swap (Sp.cons (fun _ a => a) (fun _ l => Sp.m3 l) h)
theorem Sp.m5 {A0 B0 C0 D0 E0 F0 : Assn} {L : List Assn} {m : PM} (h : Sp (A0 :: B0 :: C0 :: D0 :: E0 :: F0 :: L) m) : Sp (F0 :: A0 :: B0 :: C0 :: D0 :: E0 :: L) m := Sp.swap (Sp.cons (fun _ a => a) (fun _ l => Sp.m4 l) h)
theorem Hs.m2 {A0 B0 C0 : Assn} {L : List Assn} {h : Heap} (H : Hs h (A0 :: B0 :: C0 :: L)) : Hs h (C0 :: A0 :: B0 :: L) := Sp.m2 H
theorem Hs.r2 {A0 B0 C0 : Assn} {L : List Assn} {h : Heap} (H : Hs h (A0 :: B0 :: C0 :: L)) : Hs h (B0 :: C0 :: A0 :: L) := Sp.r2 H
theorem Hs.m3 {A0 B0 C0 D0 : Assn} {L : List Assn} {h : Heap} (H : Hs h (A0 :: B0 :: C0 :: D0 :: L)) : Hs h (D0 :: A0 :: B0 :: C0 :: L) := Sp.m3 H
theorem Hs.r3 {A0 B0 C0 D0 : Assn} {L : List Assn} {h : Heap} (H : Hs h (A0 :: B0 :: C0 :: D0 :: L)) : Hs h (B0 :: C0 :: D0 :: A0 :: L) := Sp.r3 H
theorem Hs.m4 {A0 B0 C0 D0 E0 : Assn} {L : List Assn} {h : Heap} (H : Hs h (A0 :: B0 :: C0 :: D0 :: E0 :: L)) : Hs h (E0 :: A0 :: B0 :: C0 :: D0 :: L) := Sp.m4 H
theorem Hs.m5 {A0 B0 C0 D0 E0 F0 : Assn} {L : List Assn} {h : Heap} (H : Hs h (A0 :: B0 :: C0 :: D0 :: E0 :: F0 :: L)) : Hs h (F0 :: A0 :: B0 :: C0 :: D0 :: E0 :: L) := Sp.m5 H
theorem Hs.at {i : Nat} (H : Hs h L) (i : Nat) {A : Assn} (e : L[i]? = some A) : Hs h (A :: L.eraseIdx i) := H.perm (by
 have hi : i < L.length := (List.getElem?_eq_some_iff.1 e).1
 have ha : L[i] = A := (List.getElem?_eq_some_iff.1 e).2
 subst ha
 clear e H
 induction L generalizing i with
 | nil => exact absurd hi (by simp)
 | cons x l ih =>
  cases i with
  | zero => exact List.Perm.refl _
  | succ i => exact (List.Perm.cons x (ih i (by simpa using hi))).trans (List.Perm.swap _ _ _))
theorem Hs.app : Hs h (Sp L :: M) ↔ Hs h (L ++ M) := Sp.app.symm
theorem Hs.ex {α : Sort _} {A : α → Assn} : Hs h ((fun m => ∃ x, A x m) :: L) ↔ ∃ x, Hs h (A x :: L) :=
 ⟨fun ⟨m1, m2, ⟨x, a⟩, r⟩ => ⟨x, m1, m2, a, r⟩, fun ⟨x, m1, m2, a, r⟩ => ⟨m1, m2, ⟨x, a⟩, r⟩⟩
theorem Hs.and {φ : Prop} : Hs h ((fun m => φ ∧ A m) :: L) ↔ φ ∧ Hs h (A :: L) :=
 ⟨fun ⟨m1, m2, ⟨f, a⟩, r⟩ => ⟨f, m1, m2, a, r⟩, fun ⟨f, m1, m2, a, r⟩ => ⟨m1, m2, ⟨f, a⟩, r⟩⟩
theorem Hs.fact {φ : Prop} (H : Hs h (A :: L)) (k : ∀ m, A m → Sub m (fun b => h[b]?) → φ) : φ := by
 obtain ⟨m1, m2, a, _, _, s1, _⟩ := H; exact k _ a s1

def ob (b : Nat) (o : Obj) : Assn := fun m => m b = some o
theorem Hs.get {b : Nat} {o : Obj} (H : Hs h (ob b o :: L)) : h[b]? = some o := H.fact fun _ a s => s _ _ a
theorem Hs.set {b : Nat} {o : Obj} (H : Hs h (ob b o :: L)) (o' : Obj) : Hs (h.setIfInBounds b o') (ob b o' :: L) := by
 have hb := H.get
 obtain ⟨m1, m2, a, l, d, s1, s2⟩ := H
 refine ⟨fun x => if x = b then some o' else none, m2, by simp [ob], l, fun x => ?_, fun x y e => ?_, fun x y e => ?_⟩
 ·by_cases hx : x = b
  ·subst hx; right
   rcases d x with k | k
   ·rw [show m1 x = some o from a] at k; cases k
   ·exact k
  ·left; simp [hx]
 ·by_cases hx : x = b
  ·subst hx
   simp only [if_true] at e
   show (h.setIfInBounds x o')[x]? = some y
   rw [get_set, if_pos rfl, if_pos (y136 hb)]; exact e
  ·simp only [if_neg hx] at e; cases e
 ·have hx : b ≠ x := by
   rintro rfl
   rcases d b with k | k
   ·rw [show m1 b = some o from a] at k; cases k
   ·rw [k] at e; cases e
  show (h.setIfInBounds b o')[x]? = some y
  rw [get_set, if_neg hx]; exact s2 x y e
theorem Hs.push (H : Hs h L) (o : Obj) : Hs (h.push o) (ob h.size o :: L) := by
 refine ⟨fun x => if x = h.size then some o else none, fun b => h[b]?, by simp [ob], H, fun x => ?_, fun x y e => ?_, fun x y e => ?_⟩
 ·by_cases hx : x = h.size
  ·right; subst hx; simp
  ·left; simp [hx]
 ·by_cases hx : x = h.size
  ·subst hx
   simp only [if_true] at e
   show (h.push o)[h.size]? = some y
   rw [get_push, if_pos rfl]; exact e
  ·simp only [if_neg hx] at e; cases e
 ·show (h.push o)[x]? = some y
  rw [get_push, if_neg (by have := y136 e; omega)]; exact e
def ro (h0 : Heap) : Assn := fun m => ∀ b, b < h0.size → m b = h0[b]?
theorem Hs.start (h : Heap) : Hs h [ro h] := ⟨fun b => h[b]?, fun _ => none, fun _ _ => rfl, trivial, fun _ => .inr rfl, .refl _, (fun _ _ e => nomatch e)⟩
theorem Hs.ro_below {h0 : Heap} (H : Hs h (ro h0 :: L)) : ExtB h0.size h0 h := by
 have k : ∀ b, b < h0.size → h[b]? = h0[b]? := H.fact fun m a s b hb => by
  have e : h0[b]? = some h0[b] := Array.getElem?_eq_getElem hb
  rw [e]; exact s _ _ (by rw [a b hb, e])
 refine ⟨?_, k⟩
 rcases Nat.lt_or_ge h.size h0.size with hlt | hge
 ·have := k _ hlt; simp [Array.getElem?_eq_getElem hlt] at this
 ·exact hge
theorem Hs.ro_rd {h0 : Heap} (H : Hs h (ro h0 :: L)) {a : Option Addr} {xs : List Value} (k : Rd h0 a xs) : Rd h a xs := k.keep H.ro_below

def Gv (L : List Assn) (a : Option Addr) (xs : List Value) : Prop := ∀ h, Hs h L → Rd h a xs
theorem Gv.cons {a : Option Addr} {xs : List Value} (k : Gv L a xs) : Gv (A :: L) a xs := fun h H => k h H.tl
theorem Gv.ro {h0 : Heap} {a : Option Addr} {xs : List Value} (k : Rd h0 a xs) : Gv (ro h0 :: L) a xs := fun h H => H.ro_rd k
theorem Gv.take {a : Option Addr} {xs : List Value} (k : Gv L a xs) (n : Nat) : Gv L a (xs.take n) := fun h H => (k h H).take n

theorem Sp.two {As : List Assn} {A : Assn} {m : PM} : Sp (A :: As) m ↔ Sp [A, Sp As] m := by
 constructor
 ·rintro ⟨m1, m2, a, b, c, d, e⟩
  exact ⟨m1, m2, a, ⟨m2, fun _ => none, b, trivial, fun _ => .inr rfl, Sub.refl _, (fun _ _ e => nomatch e)⟩, c, d, e⟩
 ·rintro ⟨m1, m2, a, ⟨m3, m4, b, _, d1, e1, _⟩, c, d, e⟩
  exact ⟨m1, m3, a, b, c.sub e1, d, e1.trans e⟩
def pt (b : Nat) (t : TypeId) (xs : List Value) : Assn := ob b (.cells xs.toArray t (0, 0))
theorem Hs.blk {b : Nat} {t : TypeId} {xs : List Value} (H : Hs h (pt b t xs :: L)) : Blk h b t xs := H.get
theorem Hs.cell {b : Nat} {t : TypeId} {xs : List Value} {v : Value} {a : Addr} {off : Nat} (H : Hs h (pt b t xs :: L)) (ev : xs[off]? = some v) (ha : a = ⟨b, off, none⟩ := by rfl) : cellH h a = some v := by
 subst ha; exact cell_of H.get (by simpa using ev)
theorem Hs.sto {b : Nat} {t : TypeId} {xs : List Value} {v : Value} {a : Addr} {off : Nat} {K : Heap → Prop} (H : Hs h (pt b t xs :: L)) (ho : off < xs.length) (k : ∀ h', Hs h' (pt b t (xs.set off v) :: L) → K h')
  (hv : oneC v = true := by rfl) (ha : a = ⟨b, off, none⟩ := by rfl) : wr a v K h := by
 subst ha; exact wr_ok H.get ho hv (k _ (Hs.set H _))
theorem Hs.rdc {b : Nat} {t : TypeId} {xs : List Value} (H : Hs h (pt b t xs :: L)) : ∀ {vs : List Value} {off i : Nat}, (xs.drop (off + i)).take vs.length = vs → rdCells h ⟨b, off, none⟩ i vs := by
 intro vs
 induction vs with
 | nil => exact fun _ => trivial
 | cons v vs ih =>
  intro off i e
  have h0 : xs[off + i]? = some v := by
   have := congrArg (·[0]?) e
   simpa [List.getElem?_take, List.getElem?_drop] using this
  refine ⟨?_, ih (off := off) (i := i + 1) ?_⟩
  ·rw [y47]; exact H.cell h0
  ·have := congrArg List.tail e
   simpa [← List.drop_one, List.drop_take, List.drop_drop, Nat.add_assoc] using this
theorem Hs.rdc0 {b : Nat} {t : TypeId} {xs : List Value} (H : Hs h (pt b t xs :: L)) {a : Addr} (ha : a = ⟨b, 0, none⟩ := by rfl) : rdCells h a 0 xs := by
 subst ha; exact H.rdc (by simp)
theorem Hs.new (H : Hs h L) {t : TypeId} {cs : Array Value} {xs : List Value} (e : cs = xs.toArray := by rfl) : Hs (h.push (.cells cs t (0, 0))) (pt h.size t xs :: L) := by subst e; exact H.push _
theorem Hs.ptrd {b off : Nat} {t : TypeId} {xs ys : List Value} (H : Hs h (pt b t xs :: L)) (e : ys = (xs.drop off).take ys.length) : Rd h (some ⟨b, off, none⟩) ys := Rd.of_blk H.get e

theorem Hs.chg {b : Nat} {o o' : Obj} (H : Hs h (ob b o :: L)) (hk : ∀ j, b ≠ j → h'[j]? = h[j]?) (hb : h'[b]? = some o') : Hs h' (ob b o' :: L) := by
 obtain ⟨m1, m2, a, l, d, s1, s2⟩ := H
 refine ⟨fun x => if x = b then some o' else none, m2, by simp [ob], l, fun x => ?_, fun x y e => ?_, fun x y e => ?_⟩
 ·by_cases hx : x = b
  ·subst hx; right
   rcases d x with k | k
   ·rw [show m1 x = some o from a] at k; cases k
   ·exact k
  ·left; simp [hx]
 ·by_cases hx : x = b
  ·subst hx; simp only [if_true] at e; rw [← e]; exact hb
  ·simp only [if_neg hx] at e; cases e
 ·have hx : b ≠ x := by
   rintro rfl
   rcases d b with k | k
   ·rw [show m1 b = some o from a] at k; cases k
   ·rw [k] at e; cases e
  show h'[x]? = some y
  rw [hk x hx]; exact s2 x y e
theorem Hs.make {P : Program} {t e : TypeId} {bz n c : Nat} {z : Value} {k k' : IntKind} {i j : Int} (H : Hs h L) (E : Elem P t e 1 bz z) (hi : i = n) (hj : j = c) (hnc : n ≤ c) (hc : bz * c ≤ 2 ^ 48) (hc2 : c < 2 ^ 63) {K : Value → Heap → Prop}
  (kk : ∀ h' b, Hs h' (pt b e (List.replicate c z) :: L) → K (.slice (some ⟨b, 0, none⟩) n c) h') (hz : z.cells = #[z] := by rfl) : hwp P (Instr.makeSlice t (.int k i) (.int k' j)) K h := by
 subst hi hj
 exact hwp_make E hz hnc hc hc2 (kk _ _ H.new)
theorem Hs.copy {P : Program} {t t2 ty e bt : TypeId} {sz bz b n c m c2 : Nat} {z : Value} {a2 : Option Addr} {xs ys : List Value} {off : Nat} (H : Hs h (pt b bt xs :: L)) (E : Elem P t e sz bz z) (hn : off + ys.length ≤ xs.length) (hr : Rd h a2 ys) (hn0 : a2 = none → m = 0) (hy : ys.length = min m n * sz) (hv : ∀ v ∈ ys, oneC v = true) {K : Value → Heap → Prop}
  (kk : ∀ h', Hs h' (pt b bt (xs.take off ++ ys ++ xs.drop (off + ys.length)) :: L) → K (.int .i64 (min m n : Nat)) h') :
  hwp P (Builtin.copy_ #[t, t2] ty #[.slice (some ⟨b, off, none⟩) n c, .slice a2 m c2]) K h :=
 hwp_copy E H.blk hy hr hn0 hn hv fun h' hk hs hb => kk h' (H.chg hk hb)
theorem idx {P : Program} {t e : TypeId} {bz : Nat} {z : Value} (E : Elem P t e 1 bz z) {a : Option Addr} {n c : Nat} {k : IntKind} {i : Int} {xs : List Value} {v : Value} (hr : Rd h a xs) (h0 : 0 ≤ i) (hi : i < n) (hv : xs[i.toNat]? = some v)
  {R : Addr → Heap → Prop} (K : ∀ t, cellH h t = some v → R t h) : hwp P (Instr.indexAt t (.slice a n c) (.int k i)) (fun u h1 => ∃ t, u = .pointer (some t) ∧ R t h1) h := by
 obtain ⟨ad, rfl, hc⟩ := hr _ _ hv
 refine hwp_index E h0 hi ⟨_, rfl, K _ ?_⟩
 rw [Nat.mul_one]; exact hc
theorem idxs {P : Program} {t e : TypeId} {sz bz : Nat} {z : Value} (E : Elem P t e sz bz z) {a : Option Addr} {n c : Nat} {k : IntKind} {i : Int} {xs vs : List Value} (hr : Rd h a xs) (h0 : 0 ≤ i) (hi : i < n) (hne : vs ≠ []) (hv : ∀ (j : Nat) v, vs[j]? = some v → xs[i.toNat * sz + j]? = some v)
  {R : Addr → Heap → Prop} (K : ∀ t, rdCells h t 0 vs → R t h) : hwp P (Instr.indexAt t (.slice a n c) (.int k i)) (fun u h1 => ∃ t, u = .pointer (some t) ∧ R t h1) h := by
 obtain ⟨v0, l0, rfl⟩ := List.exists_cons_of_ne_nil hne
 obtain ⟨ad, rfl, hc⟩ := hr _ _ (hv 0 v0 rfl)
 refine hwp_index E h0 hi ⟨_, rfl, K _ ?_⟩
 have key : ∀ (ws : List Value) (j0 : Nat), (∀ (j : Nat) v, ws[j]? = some v → (v0 :: l0)[j0 + j]? = some v) → rdCells h (ad.add (i.toNat * sz)) j0 ws := by
  intro ws
  induction ws with
  | nil => exact fun _ _ => trivial
  | cons w ws ih =>
   intro j0 hw
   refine ⟨?_, ih (j0 + 1) fun j v hj => ?_⟩
   ·rw [add_add]; exact hr.cell (hv j0 w (by have := hw 0 w rfl; simpa using this))
   ·have := hw (j + 1) v (by simpa using hj)
    rwa [show j0 + (j + 1) = j0 + 1 + j by omega] at this
 exact key _ 0 fun j v hj => by simpa using hj
theorem Hs.wrs_at {b : Nat} {t : TypeId} {K : Heap → Prop} {off : Nat} : ∀ (vs : List Value) {i : Nat} {xs : List Value} {h : Heap}, Hs h (pt b t xs :: L) → off + i + vs.length ≤ xs.length → (∀ v ∈ vs, oneC v = true) →
  (∀ h', Hs h' (pt b t (xs.take (off + i) ++ vs ++ xs.drop (off + i + vs.length)) :: L) → K h') → wrCells ⟨b, off, none⟩ i vs K h := by
 intro vs
 induction vs with
 | nil => intro i xs h H hl hv kk; exact kk h (by simpa using H)
 | cons v vs ih =>
  intro i xs h H hl hv kk
  simp only [List.length_cons] at hl
  refine H.sto (a := Addr.add ⟨b, off, none⟩ i) (off := off + i) (by omega) (fun h1 H1 => ?_) (hv v (by simp)) (y47 _ _ _)
  refine ih H1 (by simp; omega) (fun u hu => hv u (by simp [hu])) fun h2 H2 => kk h2 ?_
  have e : (xs.set (off + i) v).take (off + (i + 1)) ++ vs ++ (xs.set (off + i) v).drop (off + (i + 1) + vs.length) = xs.take (off + i) ++ (v :: vs) ++ xs.drop (off + i + (v :: vs).length) := by
   rw [List.drop_set, if_pos (by omega), List.take_set, ← Nat.add_assoc, List.take_succ_eq_append_getElem (by omega), List.set_append_right _ _ (by simp; omega)]
   simp only [List.length_take, Nat.min_eq_left (show off + i ≤ xs.length by omega), Nat.sub_self, List.set_cons_zero, List.append_assoc, List.cons_append, List.nil_append, List.length_cons]
   congr 4; omega
  rw [e] at H2; exact H2
theorem Hs.wrs {b : Nat} {t : TypeId} {K : Heap → Prop} {vs xs : List Value} {a : Addr} (H : Hs h (pt b t xs :: L)) (kk : ∀ h', Hs h' (pt b t vs :: L) → K h') (hl : vs.length = xs.length := by rfl) (hv : ∀ v ∈ vs, oneC v = true := by simp [oneC]) (ha : a = ⟨b, 0, none⟩ := by rfl) : wrCells a 0 vs K h := by
 subst ha
 refine Hs.wrs_at vs H (by omega) hv fun h' H' => kk h' ?_
 simpa [hl] using H'
theorem Hs.wrso {b : Nat} {t : TypeId} {K : Heap → Prop} {vs xs : List Value} {a : Addr} (off : Nat) (H : Hs h (pt b t xs :: L)) (kk : ∀ h', Hs h' (pt b t (xs.take off ++ vs ++ xs.drop (off + vs.length)) :: L) → K h') (hl : off + vs.length ≤ xs.length) (hv : ∀ v ∈ vs, oneC v = true := by simp [oneC]) (ha : a = ⟨b, off, none⟩ := by rfl) : wrCells a 0 vs K h := by
 subst ha
 exact Hs.wrs_at vs H (by omega) hv fun h' H' => kk h' (by simpa using H')
theorem flat_len {α : Type} {φ : α → List Value} {sz : Nat} (hφ : ∀ x, (φ x).length = sz) (l : List α) : (l.flatMap φ).length = l.length * sz := by
 induction l with
 | nil => simp
 | cons x l ih => simp [List.flatMap_cons, hφ, ih, Nat.add_mul, Nat.add_comm]
theorem flat_get {α : Type} {φ : α → List Value} {sz : Nat} (hφ : ∀ x, (φ x).length = sz) {l : List α} {i : Nat} {x : α} (hx : l[i]? = some x) : ∀ (j : Nat) (v : Value), (φ x)[j]? = some v → (l.flatMap φ)[i * sz + j]? = some v := by
 intro j v hv
 have hj : j < sz := by rw [← hφ x]; exact (List.getElem?_eq_some_iff.1 hv).1
 induction l generalizing i with
 | nil => simp at hx
 | cons y l ih =>
  rw [List.flatMap_cons]
  cases i with
  | zero =>
   simp only [List.getElem?_cons_zero, Option.some.injEq] at hx; subst hx
   rw [Nat.zero_mul, Nat.zero_add, List.getElem?_append_left (by rw [hφ]; exact hj)]; exact hv
  | succ i =>
   rw [List.getElem?_append_right (by rw [hφ, Nat.add_mul]; omega), hφ, show (i + 1) * sz + j - sz = i * sz + j by rw [Nat.add_mul]; omega]
   exact ih (by simpa using hx)
theorem idxf {α : Type} {φ : α → List Value} {P : Program} {t e : TypeId} {sz bz : Nat} {z : Value} (E : Elem P t e sz bz z) {a : Option Addr} {n c : Nat} {k : IntKind} {i : Int} {l : List α} {x : α} (hr : Rd h a (l.flatMap φ)) (hφ : ∀ x, (φ x).length = sz) (hs : 0 < sz) (h0 : 0 ≤ i) (hi : i < n) (hx : l[i.toNat]? = some x)
  {R : Addr → Heap → Prop} (K : ∀ t, rdCells h t 0 (φ x) → R t h) : hwp P (Instr.indexAt t (.slice a n c) (.int k i)) (fun u h1 => ∃ t, u = .pointer (some t) ∧ R t h1) h :=
 idxs E hr h0 hi (fun e => by have := hφ x; rw [e] at this; simp at this; omega) (flat_get hφ hx) K
def own (a : Option Addr) (n c : Nat) (e : TypeId) (sz : Nat) (xs : List Value) : Assn := fun m =>
 xs.length = n * sz ∧ n ≤ c ∧ ((a = none ∧ c = 0) ∨ ∃ b off cs, a = some ⟨b, off, none⟩ ∧ m b = some (.cells cs e (0, 0)) ∧ off + c * sz ≤ cs.size ∧ ∀ i, i < xs.length → cs[off + i]? = xs[i]?)
section
variable {a : Option Addr} {n c sz : Nat} {e : TypeId} {xs : List Value}
theorem Hs.Own (H : Hs h (own a n c e sz xs :: L)) : Own h a n c e sz xs := H.fact fun m k s => by
 obtain ⟨h1, h2, h3 | ⟨b, off, cs, ha, hb, hc, hx⟩⟩ := k
 ·exact ⟨h1, h2, .inl h3⟩
 ·exact ⟨h1, h2, .inr ⟨b, off, cs, ha, s _ _ hb, hc, hx⟩⟩
theorem Hs.rd (H : Hs h (own a n c e sz xs :: L)) : Rd h a xs := H.Own.rd
theorem Hs.own_len (H : Hs h (own a n c e sz xs :: L)) : xs.length = n * sz := H.Own.1
theorem Hs.own_le (H : Hs h (own a n c e sz xs :: L)) : n ≤ c := H.Own.2.1
theorem Gv.own : Gv (own a n c e sz xs :: L) a xs := fun h H => H.rd
theorem Hs.own_nil (H : Hs h L) (e : TypeId) (sz : Nat) : Hs h (own none 0 0 e sz [] :: L) :=
 ⟨fun _ => none, fun b => h[b]?, ⟨by simp, Nat.le_refl _, .inl ⟨rfl, rfl⟩⟩, H, fun _ => .inl rfl, (fun _ _ e => nomatch e), .refl _⟩
theorem Hs.pt_own {b : Nat} {ys : List Value} (H : Hs h (pt b e ys :: L)) (off : Nat) (hy : xs = (ys.drop off).take (n * sz)) (hl : xs.length = n * sz) (hnc : n ≤ c) (hc : off + c * sz ≤ ys.length) : Hs h (own (some ⟨b, off, none⟩) n c e sz xs :: L) :=
 H.mono fun m k => ⟨hl, hnc, .inr ⟨b, off, ys.toArray, rfl, k, by simpa using hc, fun i hi => by
  rw [hy]
  simp only [List.getElem?_toArray, List.getElem?_take, List.getElem?_drop]
  rw [if_pos (by omega)]⟩⟩
theorem Hs.pt_all {b : Nat} {ys : List Value} (H : Hs h (pt b e ys :: L)) (hl : ys.length = n) : Hs h (HW.own (some ⟨b, 0, none⟩) n n e 1 ys :: L) :=
 H.pt_own 0 (by rw [List.drop_zero, List.take_of_length_le (by omega)]) (by omega) (Nat.le_refl _) (by omega)
theorem Hs.own_pt (H : Hs h (own a n c e sz xs :: L)) (hc : c * sz ≠ 0) : ∃ b off ys, a = some ⟨b, off, none⟩ ∧ off + c * sz ≤ ys.length ∧ xs = (ys.drop off).take (n * sz) ∧ Hs h (pt b e ys :: L) := by
 obtain ⟨m1, m2, ⟨h1, h2, h3⟩, l, d, s1, s2⟩ := H
 rcases h3 with ⟨_, rfl⟩ | ⟨b, off, cs, ha, hb, hcs, hx⟩
 ·simp at hc
 ·have h5 := Nat.mul_le_mul_right sz h2
  refine ⟨b, off, cs.toList, ha, by simpa using hcs, ?_, m1, m2, by simpa [pt, ob] using hb, l, d, s1, s2⟩
  apply List.ext_getElem?
  intro i
  simp only [List.getElem?_take, List.getElem?_drop, Array.getElem?_toList]
  split
  ·rw [hx i (by omega)]
  ·rw [List.getElem?_eq_none (by omega)]
theorem Hs.append {P : Program} {t t2 ty : TypeId} {bz m : Nat} {z x : Value} {ut : TypeDesc} {ys : List Value} {K : Value → Heap → Prop} (H : Hs h (HW.own a n c e sz xs :: L)) (E : Elem P t e sz bz z) (hx : Src h x m sz ys) (hv : ∀ v ∈ ys, oneC v = true)
  (k : ∀ h' a' c', Hs h' (HW.own a' (n + m) c' e sz (xs ++ ys) :: L) → K (.slice a' (n + m) c') h')
  (hm : (2 * (n + m) + 192) * bz ≤ 2 ^ 48) (hm0 : n + m < 2 ^ 62) (hz : z.cells.size = sz := by rfl) (hu : P.underlying t2 = some ut := by kernel_rfl) (hnu : notInt ut = true := by rfl) : hwp P (Builtin.append_ #[t, t2] ty #[.slice a n c, x]) K h := by
 obtain ⟨m1, m2, k1, l, d, s1, s2⟩ := H
 have ho : HW.Own h a n c e sz xs := by
  obtain ⟨h1, h2, h3 | ⟨b, off, cs, ha, hb, hc, hx⟩⟩ := k1
  ·exact ⟨h1, h2, .inl h3⟩
  ·exact ⟨h1, h2, .inr ⟨b, off, cs, ha, s1 _ _ hb, hc, hx⟩⟩
 refine hwp_append E hz hu hnu ho hx hv hm hm0 ?_
 intro h' a' c' hs hk ho' hb' hfar
 refine k h' a' c' ?_
 have hm2 : Sub m2 (fun b => h'[b]?) := by
  intro b o hbo
  have hlt := y136 (s2 b o hbo)
  refine (hk b hlt ?_).trans (s2 b o hbo)
  intro ad had hadb
  obtain ⟨_, _, ⟨h1, h2⟩ | ⟨b1, off1, cs1, ha1, hb1, _⟩⟩ := k1
  ·rw [h1] at had; cases had
  ·rw [had] at ha1; cases ha1
   subst hadb
   rcases d b1 with q | q
   ·rw [hb1] at q; cases q
   ·rw [hbo] at q; cases q
 obtain ⟨g1, g2, g3⟩ := ho'
 rcases g3 with g3 | ⟨b, off, cs, ha, hb, hc, hxx⟩
 ·exact ⟨fun _ => none, m2, ⟨g1, g2, .inl g3⟩, l, fun _ => .inl rfl, (fun _ _ e => nomatch e), hm2⟩
 ·refine ⟨fun x => if x = b then some (.cells cs e (0, 0)) else none, m2, ⟨g1, g2, .inr ⟨b, off, cs, ha, by simp, hc, hxx⟩⟩, l, fun x => ?_, fun x y e => ?_, hm2⟩
  ·by_cases hxb : x = b
   ·right; subst hxb
    cases hq : m2 x with
    | none => rfl
    | some o =>
     exfalso
     have hlt := y136 (s2 x o hq)
     rcases (hb' _ ha).2 with ⟨ad0, h1, h2⟩ | h1
     ·obtain ⟨_, _, ⟨q1, q2⟩ | ⟨b1, off1, cs1, ha1, hb1, _⟩⟩ := k1
      ·rw [q1] at h1; cases h1
      ·rw [h1] at ha1; cases ha1
       simp only at h2; subst h2
       rcases d b1 with q | q
       ·rw [hb1] at q; cases q
       ·rw [hq] at q; cases q
     ·simp only at h1; omega
   ·left; simp [hxb]
  ·by_cases hx' : x = b
   ·subst hx'; simp only [if_true] at e; rw [← e]; exact hb
   ·simp only [if_neg hx'] at e; cases e
theorem Hs.app_sl {P : Program} {t ty : TypeId} {bz m c2 : Nat} {z : Value} {a2 : Option Addr} {ys : List Value} {K : Value → Heap → Prop} (H : Hs h (HW.own a n c e sz xs :: L)) (E : Elem P t e sz bz z) (hr : Rd h a2 ys) (hl : ys.length = m * sz) (hn0 : a2 = none → m = 0) (hv : ∀ v ∈ ys, oneC v = true)
  (k : ∀ h' a' c', Hs h' (HW.own a' (n + m) c' e sz (xs ++ ys) :: L) → K (.slice a' (n + m) c') h')
  (hm : (2 * (n + m) + 192) * bz ≤ 2 ^ 48) (hm0 : n + m < 2 ^ 62) (hz : z.cells.size = sz := by rfl) : hwp P (Builtin.append_ #[t, t] ty #[.slice a n c, .slice a2 m c2]) K h :=
 H.append E (x := .slice a2 m c2) ⟨rfl, hl, hr, hn0⟩ hv k hm hm0 hz (hu := E.und) rfl
theorem Hs.app_vals {P : Program} {t ty : TypeId} {bz m : Nat} {z : Value} {cs : Array Value} {ys : List Value} {K : Value → Heap → Prop} (H : Hs h (HW.own a n c e sz xs :: L)) (E : Elem P t e sz bz z) (hcs : cs = ys.toArray) (hl : ys.length = m * sz) (hv : ∀ v ∈ ys, oneC v = true)
  (k : ∀ h' a' c', Hs h' (HW.own a' (n + m) c' e sz (xs ++ ys) :: L) → K (.slice a' (n + m) c') h')
  (hm : (2 * (n + m) + 192) * bz ≤ 2 ^ 48) (hm0 : n + m < 2 ^ 62) (hz : z.cells.size = sz := by rfl) : hwp P (Builtin.append_ #[t, t] ty #[.slice a n c, .slice (some ⟨h.size, 0, none⟩) m m]) K (h.push (.cells cs e (0, 0))) := by
 subst hcs
 have H1 : Hs (h.push (.cells ys.toArray e (0, 0))) (HW.own a n c e sz xs :: pt h.size e ys :: L) := (H.push _).m1
 have hx : Src (h.push (.cells ys.toArray e (0, 0))) (.slice (some ⟨h.size, 0, none⟩) m m) m sz ys := ⟨rfl, hl, H1.m1.ptrd (by simp), fun h => by cases h⟩
 exact H1.append E hx hv (fun h' a' c' H' => k h' a' c' (H'.mono_tl fun _ l => Sp.tl l)) hm hm0 hz (hu := E.und)
theorem Hs.setAt (H : Hs h (own a n c e sz xs :: L)) {b off : Nat} (ha : a = some ⟨b, off, none⟩) {i : Nat} (hi : i < xs.length) {v : Value} {K : Heap → Prop} (hv : oneC v = true) (k : ∀ h', Hs h' (own a n c e sz (xs.set i v) :: L) → K h') : wr ⟨b, off + i, none⟩ v K h := by
 have hlen := H.own_len
 have hle := H.own_le
 have h5 := Nat.mul_le_mul_right sz hle
 obtain ⟨b1, off1, ys, ha1, hc1, hx1, H1⟩ := H.own_pt (by omega)
 rw [ha] at ha1; cases ha1
 refine H1.sto (off := off + i) (by omega) ?_ hv
 intro h' H'
 refine k h' ?_
 subst ha
 refine H'.pt_own off ?_ (by simpa using hlen) hle (by simpa using hc1)
 rw [hx1, List.drop_set, if_neg (by omega), List.take_set, show off + i - off = i by omega]
theorem Hs.idx_set {P : Program} {t : TypeId} {bz : Nat} {z : Value} (E : Elem P t e 1 bz z) {k : IntKind} {i : Int} (H : Hs h (own a n c e 1 xs :: L)) (h0 : 0 ≤ i) (hi : i < n) {v : Value} (hv : oneC v = true) {R : Heap → Prop}
  (K : ∀ h', Hs h' (own a n c e 1 (xs.set i.toNat v) :: L) → R h') :
  hwp P (Instr.indexAt t (.slice a n c) (.int k i)) (fun u h1 => ∃ t, u = .pointer (some t) ∧ wr t v R h1) h := by
 have hlen := H.own_len
 have hle := H.own_le
 obtain ⟨b, off, ys, rfl, hc1, hx1, H1⟩ := H.own_pt (by omega)
 refine hwp_index E h0 hi ⟨_, rfl, ?_⟩
 rw [Nat.mul_one, y47]
 exact H.setAt rfl (by omega) hv K
end
end
end Go.HW

namespace Go.HW
open Go

theorem wrapU (k : IntKind) (hk : k.signed = false) (a : Nat) : k.wrap (a : Int) = ((a % 2 ^ k.bits : Nat) : Int) := by
 rw [wrap_bv hk, BitVec.ofInt_natCast, BitVec.toNat_ofNat]
theorem wrapS {k : IntKind} {a : Nat} (h : a < 2 ^ (k.bits - 1)) : k.wrap (a : Int) = (a : Int) := by
 cases k <;> simp [IntKind.wrap, IntKind.signed, IntKind.bits] at h ⊢ <;> omega
theorem pow_half (k : IntKind) : 2 ^ (k.bits - 1) ≤ 2 ^ k.bits := Nat.pow_le_pow_right (by decide) (by omega)
theorem and_n {k : IntKind} {a b : Nat} (ha : a < 2 ^ (k.bits - 1)) (hb : b < 2 ^ k.bits) : bAnd k a b = ((a &&& b : Nat) : Int) := by
 unfold bAnd
 have ha' := Nat.lt_of_lt_of_le ha (pow_half k)
 rw [BitVec.ofInt_natCast, BitVec.ofInt_natCast, BitVec.toNat_and, BitVec.toNat_ofNat, BitVec.toNat_ofNat, Nat.mod_eq_of_lt ha', Nat.mod_eq_of_lt hb]
 exact wrapS (Nat.lt_of_le_of_lt Nat.and_le_left ha)
theorem or_n {k : IntKind} {a b : Nat} (ha : a < 2 ^ (k.bits - 1)) (hb : b < 2 ^ (k.bits - 1)) : bOr k a b = ((a ||| b : Nat) : Int) := by
 unfold bOr
 have ha' := Nat.lt_of_lt_of_le ha (pow_half k)
 have hb' := Nat.lt_of_lt_of_le hb (pow_half k)
 rw [BitVec.ofInt_natCast, BitVec.ofInt_natCast, BitVec.toNat_or, BitVec.toNat_ofNat, BitVec.toNat_ofNat, Nat.mod_eq_of_lt ha', Nat.mod_eq_of_lt hb']
 exact wrapS (Nat.or_lt_two_pow ha hb)
theorem xor_n {k : IntKind} {a b : Nat} (ha : a < 2 ^ (k.bits - 1)) (hb : b < 2 ^ (k.bits - 1)) : bXor k a b = ((a ^^^ b : Nat) : Int) := by
 unfold bXor
 have ha' := Nat.lt_of_lt_of_le ha (pow_half k)
 have hb' := Nat.lt_of_lt_of_le hb (pow_half k)
 rw [BitVec.ofInt_natCast, BitVec.ofInt_natCast, BitVec.toNat_xor, BitVec.toNat_ofNat, BitVec.toNat_ofNat, Nat.mod_eq_of_lt ha', Nat.mod_eq_of_lt hb']
 exact wrapS (Nat.xor_lt_two_pow ha hb)
theorem and_u {k : IntKind} (hk : k.signed = false) {a b : Nat} (ha : a < 2 ^ k.bits) (hb : b < 2 ^ k.bits) : bAnd k a b = ((a &&& b : Nat) : Int) := by
 have := bAnd_bv hk (BitVec.ofNat k.bits a) (BitVec.ofNat k.bits b)
 rwa [BitVec.toNat_and, BitVec.toNat_ofNat, BitVec.toNat_ofNat, Nat.mod_eq_of_lt ha, Nat.mod_eq_of_lt hb] at this
theorem or_u {k : IntKind} (hk : k.signed = false) {a b : Nat} (ha : a < 2 ^ k.bits) (hb : b < 2 ^ k.bits) : bOr k a b = ((a ||| b : Nat) : Int) := by
 have := bOr_bv hk (BitVec.ofNat k.bits a) (BitVec.ofNat k.bits b)
 rwa [BitVec.toNat_or, BitVec.toNat_ofNat, BitVec.toNat_ofNat, Nat.mod_eq_of_lt ha, Nat.mod_eq_of_lt hb] at this
theorem xor_u {k : IntKind} (hk : k.signed = false) {a b : Nat} (ha : a < 2 ^ k.bits) (hb : b < 2 ^ k.bits) : bXor k a b = ((a ^^^ b : Nat) : Int) := by
 have := bXor_bv hk (BitVec.ofNat k.bits a) (BitVec.ofNat k.bits b)
 rwa [BitVec.toNat_xor, BitVec.toNat_ofNat, BitVec.toNat_ofNat, Nat.mod_eq_of_lt ha, Nat.mod_eq_of_lt hb] at this
theorem shl_u {k : IntKind} (hk : k.signed = false) (a : Nat) {n : Int} {m : Nat} (hn : n = m) (ha : a < 2 ^ k.bits) : sShl k a n = ((a * 2 ^ m % 2 ^ k.bits : Nat) : Int) := by
 subst hn
 have := sShl_bv hk (BitVec.ofNat k.bits a) m
 rw [BitVec.toNat_shiftLeft, BitVec.toNat_ofNat, Nat.mod_eq_of_lt ha, Int.toNat_natCast, Nat.shiftLeft_eq] at this
 exact this
theorem shr_n {k : IntKind} (a : Nat) {n : Int} {m : Nat} (hn : n = m) (ha : a < 2 ^ k.bits) : sShr k a n = ((a / 2 ^ m : Nat) : Int) := by
 subst hn
 have := sShr_bv (k := k) (BitVec.ofNat k.bits a) m
 rw [BitVec.toNat_ushiftRight, BitVec.toNat_ofNat, Nat.mod_eq_of_lt ha, Int.toNat_natCast, Nat.shiftRight_eq_div_pow] at this
 exact this
theorem and_u8 {a b : Nat} (ha : a < 256) (hb : b < 256) : bAnd .u8 a b = ((a &&& b : Nat) : Int) := and_u (k := .u8) rfl ha hb
theorem or_u8 {a b : Nat} (ha : a < 256) (hb : b < 256) : bOr .u8 a b = ((a ||| b : Nat) : Int) := or_u (k := .u8) rfl ha hb
theorem shl_u8 {a m : Nat} (ha : a < 256) : sShl .u8 a m = ((a * 2 ^ m % 256 : Nat) : Int) := shl_u (k := .u8) rfl a rfl ha
theorem shr_u8 {a m : Nat} (ha : a < 256) : sShr .u8 a m = ((a / 2 ^ m : Nat) : Int) := shr_n (k := .u8) a rfl ha
theorem wrap_u8 (a : Nat) : IntKind.u8.wrap (a : Int) = ((a % 256 : Nat) : Int) := wrapU .u8 rfl a
theorem y160 {a : Nat} (h : a < 256) : IntKind.u8.wrap (a : Int) = (a : Int) := by rw [wrap_u8, Nat.mod_eq_of_lt h]
theorem xor_u16 {a b : Nat} (ha : a < 65536) (hb : b < 65536) : bXor .u16 a b = ((a ^^^ b : Nat) : Int) := xor_u (k := .u16) rfl ha hb
theorem shr_u16 {a m : Nat} (ha : a < 65536) : sShr .u16 a m = ((a / 2 ^ m : Nat) : Int) := shr_n (k := .u16) a rfl ha
theorem wrap_u16 (a : Nat) : IntKind.u16.wrap (a : Int) = ((a % 65536 : Nat) : Int) := wrapU .u16 rfl a
theorem wrap_u16_id {a : Nat} (h : a < 65536) : IntKind.u16.wrap (a : Int) = (a : Int) := by rw [wrap_u16, Nat.mod_eq_of_lt h]
theorem or_u32 {a b : Nat} (ha : a < 4294967296) (hb : b < 4294967296) : bOr .u32 a b = ((a ||| b : Nat) : Int) := or_u (k := .u32) rfl ha hb
theorem shl_u32 {a m : Nat} (ha : a < 4294967296) : sShl .u32 a m = ((a * 2 ^ m % 4294967296 : Nat) : Int) := shl_u (k := .u32) rfl a rfl ha
theorem wrap_u32 (a : Nat) : IntKind.u32.wrap (a : Int) = ((a % 4294967296 : Nat) : Int) := wrapU .u32 rfl a
theorem y124 {a : Nat} (h : a < 4294967296) : IntKind.u32.wrap (a : Int) = (a : Int) := by rw [wrap_u32, Nat.mod_eq_of_lt h]
theorem and_u64 {a b : Nat} (ha : a < 18446744073709551616) (hb : b < 18446744073709551616) : bAnd .u64 a b = ((a &&& b : Nat) : Int) := and_u (k := .u64) rfl ha hb
theorem or_u64 {a b : Nat} (ha : a < 18446744073709551616) (hb : b < 18446744073709551616) : bOr .u64 a b = ((a ||| b : Nat) : Int) := or_u (k := .u64) rfl ha hb
theorem shl_u64 {a m : Nat} (ha : a < 18446744073709551616) : sShl .u64 a m = ((a * 2 ^ m % 18446744073709551616 : Nat) : Int) := shl_u (k := .u64) rfl a rfl ha
theorem shr_u64 {a m : Nat} (ha : a < 18446744073709551616) : sShr .u64 a m = ((a / 2 ^ m : Nat) : Int) := shr_n (k := .u64) a rfl ha
theorem wrap_u64 (a : Nat) : IntKind.u64.wrap (a : Int) = ((a % 18446744073709551616 : Nat) : Int) := wrapU .u64 rfl a
theorem y113 {a : Nat} (h : a < 18446744073709551616) : IntKind.u64.wrap (a : Int) = (a : Int) := by rw [wrap_u64, Nat.mod_eq_of_lt h]
theorem and_i64 {a b : Nat} (ha : a < 9223372036854775808) (hb : b < 9223372036854775808) : bAnd .i64 a b = ((a &&& b : Nat) : Int) := and_n (k := .i64) ha (Nat.lt_trans hb (by decide))
theorem or_i64 {a b : Nat} (ha : a < 9223372036854775808) (hb : b < 9223372036854775808) : bOr .i64 a b = ((a ||| b : Nat) : Int) := or_n (k := .i64) ha hb
theorem xor_i64 {a b : Nat} (ha : a < 9223372036854775808) (hb : b < 9223372036854775808) : bXor .i64 a b = ((a ^^^ b : Nat) : Int) := xor_n (k := .i64) ha hb
theorem y46 {z : Int} (h0 : -9223372036854775808 ≤ z) (h : z < 9223372036854775808) : IntKind.i64.wrap z = z := i64_id (by omega)
theorem shr_i64 {a m : Nat} (ha : a < 9223372036854775808) : sShr .i64 a m = ((a / 2 ^ m : Nat) : Int) := shr_n (k := .i64) a rfl (Nat.lt_trans ha (by decide))
theorem shl_i64 {a m : Nat} (hm : m < 64) (ha : a * 2 ^ m < 9223372036854775808) : sShl .i64 a m = ((a * 2 ^ m : Nat) : Int) := by
 unfold sShl
 rw [show min (m : Int).toNat IntKind.i64.bits = m from Nat.min_eq_left (by show m ≤ 64; omega)]
 have e : ((a : Int) * 2 ^ m) = ((a * 2 ^ m : Nat) : Int) := by simp
 rw [e]; exact i64_id (by omega)
theorem tmod_n (a b : Nat) : Int.tmod (a : Int) b = ((a % b : Nat) : Int) := (Int.ofNat_tmod a b).symm
theorem tdiv_n (a b : Nat) : Int.tdiv (a : Int) b = ((a / b : Nat) : Int) := (Int.ofNat_tdiv a b).symm
theorem or_add {a b k : Nat} (ha : a < 2 ^ k) : a ||| b * 2 ^ k = a + b * 2 ^ k := by
 rw [Nat.or_comm, ← Nat.shiftLeft_eq, ← Nat.shiftLeft_add_eq_or_of_lt ha, Nat.shiftLeft_eq, Nat.add_comm]
theorem and_mask (a k : Nat) : a &&& (2 ^ k - 1) = a % 2 ^ k := Nat.and_two_pow_sub_one_eq_mod a k
theorem inc {i : Nat} (hi : i < 2 ^ 62) : IntKind.i64.wrap ((i : Int) + 1) = ((i + 1 : Nat) : Int) := by rw [y46 (by omega) (by omega)]; simp
end Go.HW

namespace Go.HW
open Go Go.ChangeShapes Go.WideShapes Go.RowKit

def Dat (P : Program) (W : World) (t : TypeId) (cs : List Value) : Prop := ∃ (H : Type) (enc : TypeId × Value → H) (sp : Nat → Bool) (hd : Bool) (fuel : Nat) (x : DataW H × List MemPlace), DataW.trod enc P W 0 sp hd fuel t cs = some x ∧ ∀ n ∈ x.1.weights P t, n ≤ reachBytes
theorem y178 {H : Type} {P : Program} {e : TypeId} : ∀ {l : List (DataW H)} {d : DataW H}, d ∈ l → ∀ n ∈ d.weights P e, n ∈ DataW.weightsAll P e l
 | x :: l, d, hd, n, hn => by
  simp only [DataW.weightsAll, List.mem_append]
  rcases List.mem_cons.1 hd with rfl | h
  ·exact .inl hn
  ·exact .inr (y178 h n hn)
 | [], _, hd, _, _ => by simp at hd
section
variable {P : Program} {W : World} {t e : TypeId} {cs : List Value}
theorem Dat.of {H : Type} {enc : TypeId × Value → H} {sp : Nat → Bool} {hd : Bool} {v : Value} {d : DataW H} {p : List MemPlace} (h : DataW.Trod enc P W 0 sp hd t v d p) (hw : ∀ n ∈ d.weights P t, n ≤ reachBytes) : Dat P W t v.cells.toList := by
 obtain ⟨n, hn⟩ := h; exact ⟨H, enc, sp, hd, n, _, hn, hw⟩
theorem reach_at {H : Type} {ts : List TypeId} {ds : List (DataW H)} (h : (DataW.weightsEach P ts ds).all (· ≤ reachBytes) = true) {j : Nat} {t : TypeId} {d : DataW H} (ht : ts[j]? = some t) (hd : ds[j]? = some d) : ∀ n ∈ d.weights P t, n ≤ reachBytes := fun n hn => by
 simpa using List.all_eq_true.1 h _ (DataW.weights_mem_each ht hd n hn)
theorem Dat.bool (h : Dat P W t cs) (ht : P.underlying t = some .bool) : ∃ b, cs = [.bool b] := by
 obtain ⟨H, enc, sp, hd, n, x, h, _⟩ := h; obtain ⟨b, h, _⟩ := DataW.trod_bool ht h; exact ⟨b, h⟩
theorem Dat.int {k : IntKind} (h : Dat P W t cs) (ht : P.underlying t = some (.int k)) : ∃ n, cs = [.int k n] ∧ (Lit.int k n).wf = true := by
 obtain ⟨H, enc, sp, hd, n, x, h, _⟩ := h; obtain ⟨b, h, _, h2⟩ := DataW.trod_int ht h; exact ⟨b, h, h2⟩
theorem Dat.i64 (h : Dat P W t cs) (ht : P.underlying t = some (.int .i64)) : ∃ n : Int, cs = [.int .i64 n] ∧ -9223372036854775808 ≤ n ∧ n ≤ 9223372036854775807 := by
 obtain ⟨n, h, w⟩ := h.int ht; have := bounds_i64 w; exact ⟨n, h, by omega, by omega⟩
theorem Dat.u8 (h : Dat P W t cs) (ht : P.underlying t = some (.int .u8)) : ∃ n : Nat, cs = [.int .u8 n] ∧ n < 256 := by
 obtain ⟨n, h, w⟩ := h.int ht; have := bounds_u8 w; exact ⟨n.toNat, by rw [h, Int.toNat_of_nonneg (by omega)], by omega⟩
theorem Dat.u32 (h : Dat P W t cs) (ht : P.underlying t = some (.int .u32)) : ∃ n : Nat, cs = [.int .u32 n] ∧ n < 4294967296 := by
 obtain ⟨n, h, w⟩ := h.int ht; have := bounds_u32 w; exact ⟨n.toNat, by rw [h, Int.toNat_of_nonneg (by omega)], by omega⟩
theorem Dat.u64 (h : Dat P W t cs) (ht : P.underlying t = some (.int .u64)) : ∃ n : Nat, cs = [.int .u64 n] ∧ n < 18446744073709551616 := by
 obtain ⟨n, h, w⟩ := h.int ht; have := bounds_u64 w; exact ⟨n.toNat, by rw [h, Int.toNat_of_nonneg (by omega)], by omega⟩
theorem Dat.str (h : Dat P W t cs) (ht : P.underlying t = some .string) : ∃ s : ByteArray, cs = [.string s] ∧ s.size ≤ 140737488351232 := by
 obtain ⟨H, enc, sp, hd, n, x, h, hw⟩ := h; obtain ⟨b, hc, rfl, h2⟩ := DataW.trod_string ht h
 exact ⟨b, hc, hw _ (by simp only [DataW.weights, List.mem_singleton, Array.length_toList]; rfl)⟩
theorem Dat.struct {fs : Array Field} (h : Dat P W t cs) (ht : P.underlying t = some (.struct fs)) : cs.length = P.cellsOf t ∧ ∀ (i : Nat) (f : Field), fs[i]? = some f → Dat P W f.type ((cs.drop f.offset).take (P.cellsOf f.type)) := by
 obtain ⟨H, enc, sp, hd, n, x, h, hw⟩ := h
 obtain ⟨xs, m, _, rfl, hl, hxl, hf⟩ := DataW.trod_struct ht h
 refine ⟨hl, fun i f hif => ?_⟩
 have hi : i < xs.length := by rw [hxl]; exact (Array.getElem?_eq_some_iff.1 hif).1
 have := hf i f hif
 rw [List.getElem?_eq_getElem hi] at this
 refine ⟨H, enc, sp, hd, m, _, this, fun n hn => hw n ?_⟩
 simp only [DataW.weights, ht]
 exact DataW.weights_mem_each (j := i) (t := f.type) (d := (xs[i]).1) (by simp [hif]) (by simp [hi]) n hn
theorem Dat.fields (h : Dat P W t cs) : ∀ x ∈ fieldsOf P t, Dat P W x.1 ((cs.drop x.2.1).take x.2.2) := by
 intro x hx
 unfold fieldsOf at hx
 split at hx
 ·rename_i fs hfs
  simp only [List.mem_map] at hx
  obtain ⟨f, hf, rfl⟩ := hx
  obtain ⟨i, hi, rfl⟩ := List.getElem_of_mem hf
  exact (h.struct hfs).2 i _ (by simp_all)
 ·simp at hx
theorem Dat.array {n : Nat} (h : Dat P W t cs) (ht : P.underlying t = some (.array n e)) : cs.length = P.cellsOf t ∧ ∀ i, i < n → Dat P W e ((cs.drop (i * P.cellsOf e)).take (P.cellsOf e)) := by
 obtain ⟨H, enc, sp, hd, fuel, x, h, hw⟩ := h
 cases fuel with
 | zero => simp [DataW.trod] at h
 | succ m =>
  unfold DataW.trod at h
  rw [ht] at h
  split at h <;> simp_all
  obtain ⟨hl, xs, hp, rfl⟩ := h
  intro i hi
  have h1 := mapM_some_get hp i i (by simp [hi])
  have h2 := mapM_some_length hp
  have hx : i < xs.length := by simp at h2; omega
  rw [List.getElem?_eq_getElem hx] at h1
  refine ⟨H, enc, sp, hd, m, _, h1, fun n hn => hw n ?_⟩
  simp only [DataW.weights, ht]
  exact y178 (List.mem_map_of_mem (List.getElem_mem hx)) n hn
theorem mapM_cells {α β : Type} {f : α → Option β} : ∀ {l : List α} {r : List β}, l.mapM f = some r → r.length = l.length ∧ ∀ (i : Nat) a b, l[i]? = some a → r[i]? = some b → f a = some b := by
 intro l
 induction l with
 | nil => intro r h; simp at h; subst h; simp
 | cons a l ih =>
  intro r h
  simp only [List.mapM_cons] at h
  cases ha : f a with
  | none => rw [ha] at h; simp at h
  | some b =>
   rw [ha] at h
   cases hl : l.mapM f with
   | none => rw [hl] at h; simp at h
   | some bs =>
    rw [hl] at h
    simp at h; subst h
    obtain ⟨h1, h2⟩ := ih hl
    refine ⟨by simp [h1], fun i x y hx hy => ?_⟩
    cases i with
    | zero => simp at hx hy; subst hx hy; exact ha
    | succ i => exact h2 i x y (by simpa using hx) (by simpa using hy)
theorem cells_get {W : World} {base : Nat} {a : Addr} {n : Nat} {cs : List Value} (h : W.cells? base a n = some cs) : cs.length = n ∧ ∀ (i : Nat) v, cs[i]? = some v → cellH W.heap (a.add i) = some v := by
 unfold World.cells? at h
 split at h
 ·obtain ⟨h1, h2⟩ := mapM_cells h
  refine ⟨by simpa using h1, fun i v hv => ?_⟩
  have hi : i < n := by have := (List.getElem?_eq_some_iff.1 hv).1; simpa [h1] using this
  have := h2 i i v (by simp [hi]) hv
  rwa [cell_w] at this
 ·cases h
theorem Dat.slice (h : Dat P W t cs) (ht : P.underlying t = some (.slice e)) : ∃ (a : Option Addr) (n c : Nat), cs = [.slice a n c] ∧ n ≤ c ∧ c < 9223372036854775808 ∧ (a = none → c = 0) ∧ n * P.bytesOf e ≤ 140737488351232 ∧
  ∀ i, i < n → ∃ ad ecs, a = some ad ∧ ecs.length = P.cellsOf e ∧ (∀ (j : Nat) v, ecs[j]? = some v → cellH W.heap (ad.add (i * P.cellsOf e + j)) = some v) ∧ Dat P W e ecs := by
 obtain ⟨H, enc, sp, hd, fuel, x, h, hw⟩ := h
 rcases DataW.trod_slice ht h with ⟨rfl, _⟩ | ⟨a, len, cap, elems, rest, n, _, rfl, rfl, hb, hl, hm, hlen, hel, _, _⟩
 ·exact ⟨none, 0, 0, rfl, Nat.le_refl _, by omega, fun _ => rfl, by omega, fun i hi => by omega⟩
 ·simp only [DataW.weights, ht] at hw
  have hw0 := hw _ (List.mem_cons_self ..)
  have hwl : len * P.bytesOf e ≤ 140737488351232 := by
   refine Nat.le_trans (Nat.mul_le_mul_right _ ?_) hw0
   simp only [List.length_map]; omega
  refine ⟨some a, len, cap, rfl, hl, by have : maxLen = 2 ^ 63 - 1 := rfl; omega, (fun h => nomatch h), hwl, fun i hi => ?_⟩
  have h1 := hel i hi
  have hil : i < elems.length := by omega
  rw [List.getElem?_eq_getElem hil, Option.bind_eq_some_iff] at h1
  obtain ⟨ecs, hc, hg⟩ := h1
  obtain ⟨q1, q2⟩ := cells_get hc
  refine ⟨a, ecs, rfl, q1, fun j v hv => by rw [← add_add]; exact q2 j v hv, H, enc, sp, hd, n, _, hg, fun n hn => hw n ?_⟩
  exact List.mem_cons_of_mem _ (List.mem_append_left _ (y178 (List.mem_map_of_mem (List.getElem_mem hil)) n hn))
theorem Dat.rows {α : Type} (φ : α → List Value) (wf : α → Prop) {sz : Nat} (h : Dat P W t cs) (ht : P.underlying t = some (.slice e)) (hc : P.cellsOf e = sz) (hφ : ∀ x, (φ x).length = sz)
  (step : ∀ ecs, ecs.length = sz → Dat P W e ecs → ∃ x, ecs = φ x ∧ wf x) :
  ∃ (a : Option Addr) (n c : Nat) (l : List α), cs = [.slice a n c] ∧ Rd W.heap a (l.flatMap φ) ∧ l.length = n ∧ n ≤ c ∧ c < 9223372036854775808 ∧ (a = none → c = 0) ∧ n * P.bytesOf e ≤ 140737488351232 ∧ ∀ x ∈ l, wf x := by
 obtain ⟨a, n, c, h1, h2, h3, h4, hz, h5⟩ := h.slice ht
 have key : ∀ k, k ≤ n → ∃ l : List α, l.length = k ∧ (∀ x ∈ l, wf x) ∧ Rd W.heap a (l.flatMap φ) := by
  intro k
  induction k with
  | zero => exact fun _ => ⟨[], rfl, by simp, Rd.nil _ _⟩
  | succ k ih =>
   intro hk
   obtain ⟨l, hl, hw, hr⟩ := ih (by omega)
   obtain ⟨ad, ecs, ha, hel, hcell, hg⟩ := h5 k (by omega)
   obtain ⟨x, rfl, hx⟩ := step ecs (by rw [hel, hc]) hg
   refine ⟨l ++ [x], by simp [hl], fun y hy => ?_, ?_⟩
   ·rcases List.mem_append.1 hy with hy | hy
    ·exact hw y hy
    ·simp at hy; subst hy; exact hx
   ·have hfl : (l.flatMap φ).length = k * sz := by
     rw [← hl]; clear hl hw hr ih
     induction l with
     | nil => simp
     | cons y l ih => simp [List.flatMap_cons, hφ, ih, Nat.add_mul, Nat.add_comm]
    intro i v hv
    simp only [List.flatMap_append, List.flatMap_cons, List.flatMap_nil, List.append_nil] at hv
    rcases Nat.lt_or_ge i (k * sz) with hi | hi
    ·rw [List.getElem?_append_left (by omega)] at hv
     exact hr i v hv
    ·rw [List.getElem?_append_right (by omega), hfl] at hv
     refine ⟨ad, ha, ?_⟩
     have := hcell (i - k * sz) v hv
     rwa [hc, show k * sz + (i - k * sz) = i by omega] at this
 obtain ⟨l, hl, hw, hr⟩ := key n (Nat.le_refl _)
 exact ⟨a, n, c, l, h1, hr, hl, h2, h3, h4, hz, hw⟩
theorem flatMap_one {α β : Type} (f : α → β) (l : List α) : l.flatMap (fun x => [f x]) = l.map f := by induction l <;> simp_all
theorem Dat.bytes (h : Dat P W t cs) (ht : P.underlying t = some (.slice e)) (he : P.underlying e = some (.int .u8)) (hc : P.cellsOf e = 1) :
  ∃ (a : Option Addr) (n c : Nat) (bs : List (BitVec 8)), cs = [.slice a n c] ∧ Rd W.heap a (byV bs) ∧ bs.length = n ∧ n ≤ c ∧ c < 9223372036854775808 ∧ (a = none → c = 0) ∧ n * P.bytesOf e ≤ 140737488351232 := by
 obtain ⟨a, n, c, l, h1, h2, h3, h4, h5, h6, hz, _⟩ := h.rows (α := BitVec 8) (fun b => [.int .u8 b.toNat]) (fun _ => True) ht hc (fun _ => rfl) (fun ecs _ hg => by
  obtain ⟨n, rfl, hn⟩ := hg.u8 he
  exact ⟨BitVec.ofNat 8 n, by rw [BitVec.toNat_ofNat, Nat.mod_eq_of_lt hn], trivial⟩)
 exact ⟨a, n, c, l, h1, by rwa [flatMap_one] at h2, h3, h4, h5, h6, hz⟩
theorem Dat.nbytes (h : Dat P W t cs) (ht : P.underlying t = some (.slice e)) (he : P.underlying e = some (.int .u8)) (hc : P.cellsOf e = 1) :
  ∃ (a : Option Addr) (n c : Nat) (bs : List Nat), cs = [.slice a n c] ∧ Rd W.heap a (bs.map fun x : Nat => .int .u8 (x : Int)) ∧ bs.length = n ∧ n ≤ c ∧ c < 9223372036854775808 ∧ (a = none → c = 0) ∧ n * P.bytesOf e ≤ 140737488351232 ∧ ∀ x ∈ bs, x < 256 := by
 obtain ⟨a, n, c, l, h1, h2, h3, h4, h5, h6, hz, h7⟩ := h.rows (α := Nat) (fun b => [.int .u8 (b : Int)]) (fun x => x < 256) ht hc (fun _ => rfl) (fun ecs _ hg => by
  obtain ⟨n, rfl, hn⟩ := hg.u8 he
  exact ⟨n, rfl, hn⟩)
 exact ⟨a, n, c, l, h1, by rwa [flatMap_one] at h2, h3, h4, h5, h6, hz, h7⟩
theorem Dat.ints (h : Dat P W t cs) (ht : P.underlying t = some (.slice e)) (he : P.underlying e = some (.int .i64)) (hc : P.cellsOf e = 1) :
  ∃ (a : Option Addr) (n c : Nat) (l : List Int), cs = [.slice a n c] ∧ Rd W.heap a (l.map fun z => .int .i64 z) ∧ l.length = n ∧ n ≤ c ∧ c < 9223372036854775808 ∧ (a = none → c = 0) ∧ n * P.bytesOf e ≤ 140737488351232 ∧ ∀ z ∈ l, -9223372036854775808 ≤ z ∧ z ≤ 9223372036854775807 := by
 obtain ⟨a, n, c, l, h1, h2, h3, h4, h5, h6, hz, h7⟩ := h.rows (α := Int) (fun z => [.int .i64 z]) (fun z => -9223372036854775808 ≤ z ∧ z ≤ 9223372036854775807) ht hc (fun _ => rfl) (fun ecs _ hg => by
  obtain ⟨n, rfl, hn⟩ := hg.i64 he
  exact ⟨n, rfl, hn⟩)
 exact ⟨a, n, c, l, h1, by rwa [flatMap_one] at h2, h3, h4, h5, h6, hz, h7⟩
end
end Go.HW

namespace Go.HW
open Go

section
variable {α β : Type} [DecidableEq α]
end

theorem bytes_beq (a b : ByteArray) : (a == b) = decide (a = b) := by
 cases a with | mk x => cases b with | mk y =>
  show (x == y) = _
  by_cases h : x = y
  ·subst h; simp
  ·simp [h]
structure Keys (P : Program) (t : TypeId) {α : Type} [DecidableEq α] (κ : α → Value) : Prop where
 chk : ∀ (b : Bool) (a : α) (K : Unit → Heap → Prop) (h : Heap), K () h → hwp P (Instr.checkKey b 10000 t (κ a)) K h
 find : ∀ (k : α) (es : List MapEntry) (ks : List α), es.map (·.key) = ks.map κ → ∀ (K : Option (Nat × Value) → Heap → Prop) (h : Heap), K ((ks.findIdx? fun x => decide (x = k)).bind fun j => (es[j]?).map fun e => (j, e.val)) h → hwp P (Instr.findKey t (κ k) es) K h
 bits : ∀ a, Instr.sameBits 10000 (κ a) (κ a) = true
theorem findNow_any {α : Type} [DecidableEq α] {κ : α → Value} {d : TypeDesc} (hd : ∀ a b, Instr.sameNow d (κ a) (κ b) = some (decide (a = b))) (k : α) : ∀ (es : List MapEntry) (ks : List α) (i : Nat), es.map (·.key) = ks.map κ →
  Instr.findNow d (κ k) es i = some ((ks.findIdx? fun x => decide (x = k)).bind fun j => (es[j]?).map fun e => (i + j, e.val))
 | [], ks, i, h => by cases ks with | nil => rfl | cons x ks => simp at h
 | e :: es, [], i, h => by simp at h
 | e :: es, x :: ks, i, h => by
  simp only [List.map_cons, List.cons.injEq] at h
  simp only [Instr.findNow, h.1, hd]
  by_cases q : k = x
  ·subst q; simp [List.findIdx?_cons]
  ·have q' : ¬ x = k := fun h => q h.symm
   simp only [decide_eq_false q]
   rw [findNow_any hd k es ks (i + 1) h.2, List.findIdx?_cons, decide_eq_false q']
   cases hf : ks.findIdx? fun x => decide (x = k) with
   | none => simp
   | some j => simp; cases es[j]? <;> simp; omega
theorem Keys.of_now {P : Program} {t : TypeId} {α : Type} [DecidableEq α] {κ : α → Value} {d : TypeDesc} (hu : P.underlying t = some d) (hd : ∀ a b, Instr.sameNow d (κ a) (κ b) = some (decide (a = b)))
  (hc : ∀ (b : Bool) (a : α) (K : Unit → Heap → Prop) (h : Heap), K () h → hwp P (Instr.checkKey b 10000 t (κ a)) K h) (hb : ∀ a, Instr.sameBits 10000 (κ a) (κ a) = true) : Keys P t κ where
 chk := hc
 bits := hb
 find k es ks he K h H := by
  unfold Instr.findKey
  refine (y8 _ _ _ _).2 ((y22 hu).2 ?_)
  rw [findNow_any hd k es ks 0 he]
  simp only [Nat.zero_add]; exact H
theorem Keys.str {P : Program} {t : TypeId} (h : P.underlying t = some .string) : Keys P t Value.string :=
 .of_now h (fun a b => by simp only [Instr.sameNow, bytes_beq]) (fun b a K g k => by
  rw [show (10000 : Nat) = 9999 + 1 from rfl]; unfold Instr.checkKey; exact (y8 _ _ _ _).2 ((y22 h).2 k))
  (fun a => by rw [show (10000 : Nat) = 9999 + 1 from rfl]; simp only [Instr.sameBits, bytes_beq, decide_true])
theorem Keys.int {P : Program} {t : TypeId} {k : IntKind} (h : P.underlying t = some (.int k)) : Keys P t (Value.int k) :=
 .of_now h (fun a b => by simp only [Instr.sameNow, if_true]; by_cases e : a = b <;> simp [e]) (fun b a K g kk => by
  rw [show (10000 : Nat) = 9999 + 1 from rfl]; unfold Instr.checkKey; exact (y8 _ _ _ _).2 ((y22 h).2 kk))
  (fun a => by rw [show (10000 : Nat) = 9999 + 1 from rfl]; simp only [Instr.sameBits, beq_self_eq_true, Bool.and_self])
theorem Keys.plain {P : Program} {t : TypeId} {α : Type} [DecidableEq α] {κ : α → Value} {fs : Array Field} (hu : P.underlying t = some (.struct fs)) (he : ∀ a b, eqv P 6 t (κ a) (κ b) = some (decide (a = b)))
  (hc : ∀ (b : Bool) (a : α), runPure P (Instr.checkKey b 10000 t (κ a)) = some ()) (hb : ∀ a, Instr.sameBits 10000 (κ a) (κ a) = true) : Keys P t κ where
 chk b a K h H := hwp_runPure (hc b a) H
 bits := hb
 find k es ks hes K h H := by
  unfold Instr.findKey
  refine (y8 _ _ _ _).2 ((y22 hu).2 ?_)
  have now : Instr.findNow (.struct fs) (κ k) es 0 = if es = [] then some none else none := by
   cases es with
   | nil => rfl
   | cons e es => simp [Instr.findNow, Instr.sameNow]
  rw [now]
  by_cases e0 : es = []
  ·rw [if_pos e0]
   subst e0
   cases ks with
   | nil => exact H
   | cons x ks => simp at hes
  ·rw [if_neg e0]
   have go : ∀ (es : List MapEntry) (ks : List α) (i : Nat) (K : Option (Nat × Value) → Heap → Prop), es.map (·.key) = ks.map κ → K ((ks.findIdx? fun x => decide (x = k)).bind fun j => (es[j]?).map fun e => (i + j, e.val)) h → hwp P (Instr.findAsking t (κ k) es i) K h := by
    intro es
    induction es with
    | nil => intro ks i K h1 H; cases ks with
     | nil => exact H
     | cons x ks => simp at h1
    | cons e es ih =>
     intro ks i K h1 H
     cases ks with
     | nil => simp at h1
     | cons x ks =>
      simp only [List.map_cons, List.cons.injEq] at h1
      unfold Instr.findAsking
      refine (y8 _ _ _ _).2 ?_
      rw [h1.1]
      refine eqv_ok 6 t (κ k) (κ x) _ (he k x) Op.maxDepth (by decide) _ _ ?_
      by_cases q : k = x
      ·subst q
       simp only [decide_true, if_true]
       show K (some (i, e.val)) h
       simpa [List.findIdx?_cons] using H
      ·have q' : ¬ x = k := fun h => q h.symm
       simp only [decide_eq_false q, Bool.false_eq_true, if_false]
       refine ih ks (i + 1) K h1.2 ?_
       rw [List.findIdx?_cons, decide_eq_false q'] at H
       cases hf : ks.findIdx? fun x => decide (x = k) with
       | none => rw [hf] at H; simpa using H
       | some j =>
        rw [hf] at H
        simp only [Bool.false_eq_true, if_false, Option.map_some, Option.bind_some, List.getElem?_cons_succ] at H ⊢
        rw [show i + 1 + j = i + (j + 1) by omega]; exact H
   refine go es ks 0 K hes ?_
   simpa using H

section
variable {α β : Type} [DecidableEq α] {κ : α → Value} {ν : β → Value} {P : Program} {t kt et : TypeId}
def entsOf (κ : α → Value) (ν : β → Value) (l : List (α × β)) (bs : List Nat) : List MapEntry := List.zipWith (fun x b => ⟨κ x.1, ν x.2, b⟩) l bs
def mp (κ : α → Value) (ν : β → Value) (r : Nat) (l : List (α × β)) : Assn := fun m => ∃ (bs : List Nat) (clock : Nat), (bs.length = l.length ∧ bs.Nodup ∧ (∀ b ∈ bs, b < clock) ∧ (l.map (·.1)).Nodup) ∧ m r = some (.map (entsOf κ ν l bs).toArray clock)
variable {h : Heap} {L : List Assn} {r : Nat} {l : List (α × β)}
theorem Hs.mp_obj (H : Hs h (mp κ ν r l :: L)) : ∃ bs clock, (bs.length = l.length ∧ bs.Nodup ∧ (∀ b ∈ bs, b < clock) ∧ (l.map (·.1)).Nodup) ∧ Hs h (ob r (.map (entsOf κ ν l bs).toArray clock) :: L) := by
 unfold mp at H
 simp only [Hs.ex, Hs.and] at H
 exact H
end
end Go.HW

namespace Go.HW
open Go

def dig (N : Nat) : Nat → List Nat
 | 0 => []
 | k + 1 => dig N k ++ [N / 256 ^ k % 256]
theorem y120 (N k : Nat) : (dig N k).length = k := by induction k with | zero => rfl | succ k ih => simp [dig, ih]
theorem dig_get {N k i : Nat} (h : i < k) : (dig N k)[i]? = some (N / 256 ^ i % 256) := by
 induction k with
 | zero => omega
 | succ k ih =>
  simp only [dig]
  rcases Nat.lt_or_ge i k with h1 | h1
  ·rw [List.getElem?_append_left (by rw [y120]; exact h1), ih h1]
  ·obtain rfl : i = k := by omega
   rw [List.getElem?_append_right (by rw [y120]; omega), y120]; simp
theorem dig_congr {N M k : Nat} (h : N % 256 ^ k = M % 256 ^ k) : dig N k = dig M k := by
 induction k with
 | zero => rfl
 | succ k ih =>
  have e : ∀ X : Nat, X % 256 ^ (k + 1) % 256 ^ k = X % 256 ^ k := fun X => Nat.mod_mod_of_dvd _ ⟨256, by rw [Nat.pow_succ]⟩
  have h1 : N % 256 ^ k = M % 256 ^ k := by rw [← e N, ← e M, h]
  have h2 : ∀ X : Nat, X / 256 ^ k % 256 = X % 256 ^ (k + 1) / 256 ^ k := fun X => by rw [Nat.pow_succ, Nat.mod_mul_right_div_self]
  simp only [dig, ih h1, h2, h]
theorem dig_lt {N k x : Nat} (h : x ∈ dig N k) : x < 256 := by
 obtain ⟨i, hi, rfl⟩ := List.getElem_of_mem h
 have := dig_get (N := N) (k := k) (i := i) (by simpa [y120] using hi)
 rw [List.getElem?_eq_getElem hi] at this
 rw [Option.some.inj this]; exact Nat.mod_lt _ (by decide)
def val : List Nat → Nat
 | [] => 0
 | x :: l => x + 256 * val l
theorem val_app (l m : List Nat) : val (l ++ m) = val l + 256 ^ l.length * val m := by
 induction l with
 | nil => simp [val]
 | cons x l ih => simp [val, ih, Nat.pow_succ]; rw [Nat.mul_add, Nat.add_assoc]; congr 1; congr 1; rw [← Nat.mul_assoc]; congr 1; rw [Nat.mul_comm]
theorem val_lt {l : List Nat} (h : ∀ x ∈ l, x < 256) : val l < 256 ^ l.length := by
 induction l with
 | nil => simp [val]
 | cons x l ih =>
  have h1 := h x (by simp)
  have h2 := ih fun y hy => h y (by simp [hy])
  simp only [val, List.length_cons, Nat.pow_succ]
  omega
theorem val_dig (N k : Nat) : val (dig N k) = N % 256 ^ k := by
 induction k with
 | zero => simp [val, dig, Nat.mod_one]
 | succ k ih => simp only [dig, val_app, ih, y120, val, Nat.mul_zero, Nat.add_zero]; rw [Nat.pow_succ, Nat.mod_mul]
theorem dig_val {l : List Nat} (h : ∀ x ∈ l, x < 256) : dig (val l) l.length = l := by
 apply List.ext_getElem?
 intro i
 rcases Nat.lt_or_ge i l.length with hi | hi
 ·rw [dig_get hi]
  have e : l = l.take i ++ l[i] :: l.drop (i + 1) := by simp
  have hv : val l = val (l.take i) + 256 ^ i * (l[i] + 256 * val (l.drop (i + 1))) := by
   conv => lhs; rw [e]
   rw [val_app]; simp [val, Nat.min_eq_left (Nat.le_of_lt hi)]
  have hlt : val (l.take i) < 256 ^ i := by
   have := val_lt (l := l.take i) fun x hx => h x (List.mem_of_mem_take hx)
   rwa [List.length_take, Nat.min_eq_left (Nat.le_of_lt hi)] at this
  rw [hv, Nat.add_mul_div_left _ _ (Nat.pow_pos (by decide)), Nat.div_eq_of_lt hlt, Nat.zero_add, Nat.add_mul_mod_self_left, Nat.mod_eq_of_lt (h _ (List.getElem_mem hi))]
  simp [hi]
 ·rw [List.getElem?_eq_none (by rw [y120]; exact hi), List.getElem?_eq_none hi]
theorem val_get {l : List Nat} (h : ∀ x ∈ l, x < 256) {i : Nat} (hi : i < l.length) : l[i] = val l / 256 ^ i % 256 := by
 have := dig_get (N := val l) (k := l.length) hi
 rw [dig_val h, List.getElem?_eq_getElem hi] at this
 exact Option.some.inj this

theorem pow256 (q : Nat) : 256 ^ q = 2 ^ (8 * q) := by rw [show 256 = 2 ^ 8 from rfl, ← Nat.pow_mul]
theorem dig_put {N len k x : Nat} (hN : N < 2 ^ len) (hk : len % 8 + k ≤ 8) (hx : x < 2 ^ k) :
  dig (N + x * 2 ^ len) (len / 8 + 1) = dig N (len / 8) ++ [N / 256 ^ (len / 8) + x * 2 ^ (len % 8)] ∧ N / 256 ^ (len / 8) < 2 ^ (len % 8) ∧ N / 256 ^ (len / 8) + x * 2 ^ (len % 8) < 256 := by
 have e : 2 ^ len = 256 ^ (len / 8) * 2 ^ (len % 8) := by rw [pow256, ← Nat.pow_add]; congr 1; omega
 have h1 : N / 256 ^ (len / 8) < 2 ^ (len % 8) := Nat.div_lt_of_lt_mul (by rw [← e]; exact hN)
 have h2 : (x + 1) * 2 ^ (len % 8) ≤ 2 ^ (len % 8 + k) := by rw [Nat.pow_add, Nat.mul_comm]; exact Nat.mul_le_mul_left _ hx
 have h3 : 2 ^ (len % 8 + k) ≤ 2 ^ 8 := Nat.pow_le_pow_right (by decide) hk
 have h5 : (x + 1) * 2 ^ (len % 8) = x * 2 ^ (len % 8) + 2 ^ (len % 8) := by rw [Nat.add_mul, Nat.one_mul]
 have h4 : N / 256 ^ (len / 8) + x * 2 ^ (len % 8) < 256 := by omega
 have e2 : N + x * 2 ^ len = N + 256 ^ (len / 8) * (x * 2 ^ (len % 8)) := by rw [e]; congr 1; rw [Nat.mul_left_comm]
 refine ⟨?_, h1, h4⟩
 simp only [dig]
 congr 1
 ·exact dig_congr (by rw [e2, Nat.add_mul_mod_self_left])
 ·rw [e2, Nat.add_mul_div_left _ _ (Nat.pow_pos (by decide)), Nat.mod_eq_of_lt h4]
theorem lt_put {N len k x : Nat} (hN : N < 2 ^ len) (hx : x < 2 ^ k) : N + x * 2 ^ len < 2 ^ (len + k) := by
 have h2 : (x + 1) * 2 ^ len ≤ 2 ^ (len + k) := by rw [Nat.pow_add, Nat.mul_comm]; exact Nat.mul_le_mul_left _ hx
 have h5 : (x + 1) * 2 ^ len = x * 2 ^ len + 2 ^ len := by rw [Nat.add_mul, Nat.one_mul]
 omega
theorem part_eq {N at_ k : Nat} (hk : at_ % 8 + k ≤ 8) : N / 256 ^ (at_ / 8) % 256 / 2 ^ (at_ % 8) % 2 ^ k = N / 2 ^ at_ % 2 ^ k := by
 have e : 2 ^ at_ = 256 ^ (at_ / 8) * 2 ^ (at_ % 8) := by rw [pow256, ← Nat.pow_add]; congr 1; omega
 rw [e, ← Nat.div_div_eq_div_mul]
 generalize N / 256 ^ (at_ / 8) = M
 have h8 : 256 = 2 ^ (at_ % 8) * 2 ^ (8 - at_ % 8) := by rw [← Nat.pow_add, show at_ % 8 + (8 - at_ % 8) = 8 by omega]
 rw [h8, Nat.mod_mul_right_div_self]
 exact Nat.mod_mod_of_dvd _ (Nat.pow_dvd_pow 2 (by omega))
theorem join_eq (M h k : Nat) : M % 2 ^ h + M / 2 ^ h % 2 ^ k * 2 ^ h = M % 2 ^ (h + k) := by
 rw [Nat.pow_add, Nat.mod_mul, Nat.mul_comm]

def nV (l : List Nat) : List Value := l.map fun x : Nat => .int .u8 (x : Int)
theorem nV_len (l : List Nat) : (nV l).length = l.length := by simp [nV]
theorem nV_app (a b : List Nat) : nV (a ++ b) = nV a ++ nV b := by simp [nV]
theorem nV_one (l : List Nat) : ∀ v ∈ nV l, oneC v = true := by
 intro v hv; simp only [nV, List.mem_map] at hv; obtain ⟨b, _, rfl⟩ := hv; rfl
theorem nV_get {l : List Nat} {i : Nat} (hi : i < l.length) : (nV l)[i]? = some (.int .u8 l[i]) := by simp [nV, hi]
theorem nV_at {l m : List Nat} {x i : Nat} (h : l.length = i) : (nV (l ++ x :: m))[i]? = some (.int .u8 (x : Int)) := by subst h; simp [nV]
theorem nV_setat {l m : List Nat} {x y i : Nat} (h : l.length = i) : (nV (l ++ x :: m)).set i (.int .u8 (y : Int)) = nV (l ++ y :: m) := by subst h; simp [nV, List.set_append_right]
end Go.HW

namespace Go.HW
open Go

def sb (s : ByteArray) : List Nat := s.data.toList.map UInt8.toNat
def st (l : List Nat) : ByteArray := ⟨(l.map UInt8.ofNat).toArray⟩
theorem sb_len (s : ByteArray) : (sb s).length = s.size := by rw [sb, List.length_map, Array.length_toList]; rfl
theorem sb_get (s : ByteArray) (i : Nat) (hi : i < s.size) : (sb s)[i]'(by rw [sb_len]; exact hi) = s[i].toNat := by simp [sb]; rfl

section
variable {h : Heap} {L : List Assn}
def rdO (a : Option Addr) (xs : List Value) : Assn := fun m => ∀ i v, xs[i]? = some v → ∃ b off cs t f, a = some ⟨b, off, none⟩ ∧ m b = some (.cells cs t f) ∧ cs[off + i]? = some v
theorem Hs.rdO {a : Option Addr} {xs : List Value} (H : Hs h (HW.rdO a xs :: L)) : Rd h a xs := H.fact fun m k s i v hv => by
 obtain ⟨b, off, cs, t, f, rfl, hm, hc⟩ := k i v hv
 exact ⟨_, rfl, by rw [y47]; exact cell_of (s _ _ hm) hc⟩
theorem Gv.rdO {a : Option Addr} {xs : List Value} : Gv (HW.rdO a xs :: L) a xs := fun h H => H.rdO
theorem loadCells_rd {P : Program} {a : Addr} {xs : List Value} {n : Nat} (hn : xs.length = n) (hr : Rd h (some a) xs) {K : Array Value → Heap → Prop} (H : K xs.toArray h) : hwp P (loadCells a n) K h := by
 refine y176 hn ?_ H
 have key : ∀ (ys : List Value) (i : Nat), (∀ (j : Nat) v, ys[j]? = some v → xs[i + j]? = some v) → rdCells h a i ys := by
  intro ys
  induction ys with
  | nil => exact fun _ _ => trivial
  | cons y ys ih =>
   intro i hy
   refine ⟨hr.cell (hy 0 y rfl), ih (i + 1) fun j v hj => ?_⟩
   have := hy (j + 1) v (by simpa using hj)
   rwa [show i + (j + 1) = i + 1 + j by omega] at this
 exact key xs 0 fun j v hj => by simpa using hj
theorem hwp_b2s {P : Program} {src dst e : TypeId} {a : Option Addr} {n c : Nat} {bs : List Nat} {K : Value → Heap → Prop} (hd : P.underlying dst = some .string) (hs : P.underlying src = some (.slice e)) (he : P.underlying e = some (.int .u8))
  (hr : Rd h a (nV bs)) (hn : bs.length = n) (hn0 : a = none → n = 0) (kk : K (.string (st bs)) h) : hwp P (Go.convert src dst (.slice a n c)) K h := by
 unfold Go.convert
 refine (y8 _ _ _ _).2 ((y22 hs).2 ((y8 _ _ _ _).2 ((y22 hd).2 ?_)))
 refine (y8 _ _ _ _).2 ((y22 he).2 ?_)
 show hwp P (Conv.bytesToString _) K h
 unfold Conv.bytesToString
 cases a with
 | none =>
  have h0 := hn0 rfl
  have : bs = [] := by cases bs with | nil => rfl | cons => simp at hn; omega
  subst this; exact kk
 | some a =>
  refine (y8 _ _ _ _).2 (loadCells_rd (by rw [nV_len]; exact hn) hr ?_)
  rw [← Array.forIn_toList]
  have key : ∀ (l : List Nat) (s : ByteArray) (K : ByteArray → Heap → Prop), K (s ++ st l) h → hwp P (forIn (nV l) s fun c r => do
    let .int .u8 n := c | stuck "bytesToString: byte expected"
    pure (ForInStep.yield (r.push (UInt8.ofNat n.toNat)))) K h := by
   intro l
   induction l with
   | nil =>
    intro s K hk
    have : s ++ st [] = s := by apply ByteArray.ext; simp [st]
    rw [this] at hk; exact hk
   | cons x l ih =>
    intro s K hk
    simp only [nV, List.map_cons, List.forIn_cons]
    refine (y8 _ _ _ _).2 ?_
    show hwp P (forIn (nV l) (s.push (UInt8.ofNat x)) _) K h
    refine ih _ K ?_
    have e : s.push (UInt8.ofNat x) ++ st l = s ++ st (x :: l) := by
     apply ByteArray.ext; simp [st, ByteArray.push]
    rw [e]; exact hk
  refine (y8 _ _ _ _).2 ?_
  have := key bs ByteArray.empty (fun s h => K (.string s) h) (by
   have : ByteArray.empty ++ st bs = st bs := by apply ByteArray.ext; simp [st]
   rw [this]; exact kk)
  exact this
theorem hwp_sidx {P : Program} {t : TypeId} {s : ByteArray} {k : IntKind} {i : Nat} {K : Value → Heap → Prop} (ht : P.underlying t = some .string) (hi : i < s.size) (kk : K (.int .u8 ((sb s)[i]'(by rw [sb_len]; exact hi) : Nat)) h) : hwp P (Instr.index t (.string s) (.int k (i : Int))) K h := by
 unfold Instr.index
 refine (y8 _ _ _ _).2 ?_
 show hwp P (Go.underlying t >>= _) K h
 refine (y8 _ _ _ _).2 ((y22 ht).2 ?_)
 show hwp P (match (if (0 : Int) ≤ (i : Int) then s[(i : Int).toNat]? else none) with | some b => pure (.int .u8 b.toNat) | none => boundsPanic k i s.size .index) K h
 rw [if_pos (Int.natCast_nonneg _), Int.toNat_natCast, getElem?_pos s i hi]
 rw [sb_get s i hi] at kk
 exact kk
end
end Go.HW

namespace Go.HW
open Go
section
variable {h : Heap} {L : List Assn}
theorem Hs.idx_wrs {P : Program} {t e : TypeId} {sz bz n c : Nat} {z : Value} {a : Option Addr} {xs vs : List Value} (E : Elem P t e sz bz z) {k : IntKind} {i : Int} (H : Hs h (own a n c e sz xs :: L)) (h0 : 0 ≤ i) (hi : i < n) (hl : vs.length = sz) (hs : 0 < sz) (hv : ∀ v ∈ vs, oneC v = true) {R : Heap → Prop}
  (K : ∀ h', Hs h' (own a n c e sz (xs.take (i.toNat * sz) ++ vs ++ xs.drop (i.toNat * sz + sz)) :: L) → R h') :
  hwp P (Instr.indexAt t (.slice a n c) (.int k i)) (fun u h1 => ∃ t, u = .pointer (some t) ∧ wrCells t 0 vs R h1) h := by
 have hlen := H.own_len
 have hle := H.own_le
 have hk : (i.toNat + 1) * sz ≤ n * sz := Nat.mul_le_mul_right _ (by omega)
 rw [Nat.add_mul, Nat.one_mul] at hk
 have hk2 : n * sz ≤ c * sz := Nat.mul_le_mul_right _ hle
 obtain ⟨b, off, ys, rfl, hc1, hx1, H1⟩ := H.own_pt (by omega)
 refine hwp_index E h0 hi ⟨_, rfl, ?_⟩
 rw [y47]
 refine H1.wrso (off + i.toNat * sz) (fun h' H' => K h' ?_) (by omega) hv
 have hyl : (ys.take (off + i.toNat * sz) ++ vs ++ ys.drop (off + i.toNat * sz + vs.length)).length = ys.length := by simp; omega
 refine H'.pt_own off ?_ ?_ hle (by rw [hyl]; exact hc1)
 ·apply List.ext_getElem?
  intro j
  subst hx1
  simp only [List.getElem?_take, List.getElem?_drop, List.getElem?_append, List.length_append, List.length_take, List.length_drop, hl]
  repeat' split
  all_goals first | (exfalso; omega) | rfl | (congr 1 <;> omega)
 ·simp; omega
theorem Hs.own_none {n c : Nat} {e : TypeId} {sz : Nat} {xs : List Value} (H : Hs h (own none n c e sz xs :: L)) : c = 0 := by
 rcases H.Own.2.2 with ⟨_, h⟩ | ⟨b, off, cs, h, _⟩
 ·exact h
 ·cases h
theorem flat_set {α : Type} {φ : α → List Value} {sz : Nat} (hφ : ∀ x, (φ x).length = sz) (l : List α) (x : α) : ∀ (i : Nat), i < l.length → (l.flatMap φ).take (i * sz) ++ φ x ++ (l.flatMap φ).drop (i * sz + sz) = (l.set i x).flatMap φ := by
 induction l with
 | nil => intro i hi; simp at hi
 | cons y l ih =>
  intro i hi
  cases i with
  | zero =>
   simp only [Nat.zero_mul, List.take_zero, List.nil_append, List.flatMap_cons, List.set_cons_zero, Nat.zero_add]
   rw [List.drop_append_of_le_length (by rw [hφ]; exact Nat.le_refl _), List.drop_of_length_le (by rw [hφ]; exact Nat.le_refl _), List.nil_append]
  | succ i =>
   have := ih i (by simpa using hi)
   simp only [List.flatMap_cons, List.set_cons_succ]
   rw [← this, Nat.add_mul, Nat.one_mul, Nat.add_comm (i * sz) sz, List.take_append, List.drop_append, hφ, List.take_of_length_le (by rw [hφ]; omega), List.drop_of_length_le (by rw [hφ]; omega), List.nil_append]
   simp only [Nat.add_sub_cancel_left, List.append_assoc]
   congr 4; omega
theorem Hs.idx_wrf {α : Type} {φ : α → List Value} {P : Program} {t e : TypeId} {sz bz n c : Nat} {z : Value} {a : Option Addr} {l : List α} (x : α) (E : Elem P t e sz bz z) {k : IntKind} {i : Int} (H : Hs h (own a n c e sz (l.flatMap φ) :: L)) (h0 : 0 ≤ i) (hi : i < n) (hφ : ∀ x, (φ x).length = sz) (hs : 0 < sz) (hv : ∀ v ∈ φ x, oneC v = true) {R : Heap → Prop}
  (K : ∀ h', Hs h' (own a n c e sz ((l.set i.toNat x).flatMap φ) :: L) → R h') :
  hwp P (Instr.indexAt t (.slice a n c) (.int k i)) (fun u h1 => ∃ t, u = .pointer (some t) ∧ wrCells t 0 (φ x) R h1) h := by
 refine H.idx_wrs E h0 hi (hφ x) hs hv fun h' H' => K h' ?_
 have hlen := H.own_len
 have hl := flat_len hφ l
 have : l.length = n := Nat.eq_of_mul_eq_mul_right hs (by omega)
 rwa [flat_set hφ l x _ (by omega)] at H'
theorem Hs.add {h' : Heap} {A : Assn} (H : Hs h L) (e : ExtB h.size h h') (m : PM) (hA : A m) (hs : Sub m fun b => h'[b]?) (hf : ∀ b, b < h.size → m b = none) : Hs h' (A :: L) := by
 refine ⟨m, fun b => h[b]?, hA, H, fun b => ?_, hs, fun b o hb => ?_⟩
 ·rcases Nat.lt_or_ge b h.size with h1 | h1
  ·exact .inl (hf b h1)
  ·exact .inr (Array.getElem?_eq_none h1)
 ·have := y136 hb
  show h'[b]? = some o
  rw [e.2 b this]; exact hb
theorem slice_pre {P : Program} {t e : TypeId} {sz bz : Nat} {z : Value} (E : Elem P t e sz bz z) {b off n c m : Nat} {k : IntKind} {K : Value → Heap → Prop} (hm : m ≤ c) (H : K (.slice (some ⟨b, off, none⟩) m c) h) :
  hwp P (Instr.sliceAt t (.slice (some ⟨b, off, none⟩) n c) none (some (.int k (m : Int))) none) K h := by
 refine y169 (lo := none) (hi := some (.int k (m : Int))) E trivial trivial (by simp [bnd]) (by simp [bnd]) (by simp [bnd]; omega) ?_
 have e : (if (c : Int) = bnd none 0 then some (⟨b, off, none⟩ : Addr) else (some (⟨b, off, none⟩ : Addr)).map (·.add ((bnd none 0).toNat * sz))) = some ⟨b, off, none⟩ := by
  split
  ·rfl
  ·rw [Option.map_some, y47]; simp [bnd]
 rw [e]
 have e1 : (bnd (some (Value.int k (m : Int))) n).toNat - (bnd none 0).toNat = m := by simp [bnd]
 have e2 : c - (bnd none 0).toNat = c := by simp [bnd]
 rw [e1, e2]; exact H
theorem cutG {P : Program} {t e : TypeId} {bz : Nat} {z : Value} (E : Elem P t e 1 bz z) {a : Option Addr} {n c i j : Nat} {bs : List Nat} {lo hi : Option Value} {K : Value → Heap → Prop} (hr : Gv L a (nV bs)) (hn : bs.length = n) (hnc : n ≤ c) (hn0 : a = none → c = 0) (hij : i ≤ j) (hj : j ≤ n) (hlo : bnd lo 0 = (i : Int)) (hhi : bnd hi (n : Int) = (j : Int))
  (H : ∀ a' c', Gv L a' (nV ((bs.drop i).take (j - i))) → (a' = none → j - i = 0) → j - i ≤ c' → (a' = none → c' = 0) → K (.slice a' (j - i) c') h) (il : isInt lo := by trivial) (ih : isInt hi := by trivial) : hwp P (Instr.sliceAt t (.slice a n c) lo hi none) K h := by
 refine y169 (lo := lo) (hi := hi) E il ih (by omega) (by omega) (by omega) ?_
 have e1 : (bnd hi (n : Int)).toNat - (bnd lo 0).toNat = j - i := by omega
 have e2 : c - (bnd lo 0).toNat = c - i := by omega
 have e3 : (bnd lo 0).toNat * 1 = i := by omega
 rw [e1, e2, e3]
 have en : ∀ x : Option Addr, x = (if (c : Int) = bnd lo 0 then a else a.map (·.add i)) → x = none → c = 0 := by
  intro x hx hx0
  rw [hx0] at hx
  split at hx
  ·exact hn0 hx.symm
  ·cases a with
   | none => exact hn0 rfl
   | some ad => simp at hx
 refine H _ _ ?_ (fun h0 => by have := en _ rfl h0; omega) (by omega) (fun h0 => by have := en _ rfl h0; omega)
 by_cases hc : (c : Int) = bnd lo 0
 ·have : c = i := by omega
  rw [show j - i = 0 by omega, List.take_zero]; exact fun h _ => Rd.nil h _
 ·rw [if_neg hc]
  refine fun h2 H2 => (hr h2 H2).sub _ fun q v hv => ?_
  simp only [nV, List.getElem?_map, List.getElem?_take, List.getElem?_drop] at hv ⊢
  split at hv
  ·exact hv
  ·simp at hv
theorem bytes_cutG {P : Program} {t e : TypeId} {bz : Nat} {z : Value} (E : Elem P t e 1 bz z) {a : Option Addr} {n c i j : Nat} {bs : List Nat} {k k' : IntKind} {K : Value → Heap → Prop} (hr : Gv L a (nV bs)) (hn : bs.length = n) (hnc : n ≤ c) (hn0 : a = none → c = 0) (hij : i ≤ j) (hj : j ≤ n)
  (H : ∀ a' c', Gv L a' (nV ((bs.drop i).take (j - i))) → (a' = none → j - i = 0) → j - i ≤ c' → (a' = none → c' = 0) → K (.slice a' (j - i) c') h) : hwp P (Instr.sliceAt t (.slice a n c) (some (.int k (i : Int))) (some (.int k' (j : Int))) none) K h :=
 cutG E hr hn hnc hn0 hij hj rfl rfl H
theorem bytes_tailG {P : Program} {t e : TypeId} {bz : Nat} {z : Value} (E : Elem P t e 1 bz z) {a : Option Addr} {n c i : Nat} {bs : List Nat} {k : IntKind} {K : Value → Heap → Prop} (hr : Gv L a (nV bs)) (hn : bs.length = n) (hnc : n ≤ c) (hn0 : a = none → c = 0) (hi : i ≤ n)
  (H : ∀ a' c', Gv L a' (nV (bs.drop i)) → (a' = none → n - i = 0) → n - i ≤ c' → (a' = none → c' = 0) → K (.slice a' (n - i) c') h) : hwp P (Instr.sliceAt t (.slice a n c) (some (.int k (i : Int))) none none) K h :=
 cutG (lo := some (.int k (i : Int))) (hi := none) E hr hn hnc hn0 hi (Nat.le_refl _) rfl rfl fun a' c' k => H a' c' (by rwa [List.take_of_length_le (by rw [List.length_drop, hn]; exact Nat.le_refl _)] at k)
end
end Go.HW

namespace Go.HW
open Go
structure Arr (P : Program) (t e : TypeId) (n sz : Nat) : Prop where
 und : P.underlying t = some (.array n e)
 info : ∃ i, P.info? e = some i ∧ i.size = sz
theorem Arr.of {P : Program} {t e : TypeId} {n sz : Nat} (u : P.underlying t = some (.array n e)) (i : (P.info? e).map (·.size) = some sz) : Arr P t e n sz := ⟨u, size_of i⟩
section
variable {P : Program} {t e : TypeId} {n sz : Nat} {h : Heap} {L : List Assn}
theorem Arr.sizeOf (A : Arr P t e n sz) {K : Nat → Heap → Prop} (H : K sz h) : hwp P (Go.sizeOf e) K h := by
 obtain ⟨i, hi, hs⟩ := A.info
 unfold Go.sizeOf Go.typeInfo
 refine (y8 _ _ _ _).2 ((y8 _ _ _ _).2 ?_)
 show hwp P (match P.info? e with | some i => pure i | none => _) _ h
 rw [hi]
 show K i.size h
 rw [hs]; exact H
theorem ai (A : Arr P t e n 1) {b j : Nat} {k : IntKind} {i : Int} (hi : j < n) {R : Addr → Heap → Prop} (K : R ⟨b, j, none⟩ h) (hj : i = (j : Int) := by rfl) : hwp P (Instr.indexAt t (.pointer (some ⟨b, 0, none⟩)) (.int k i)) (fun u h1 => ∃ t, u = .pointer (some t) ∧ R t h1) h := by
 subst hj
 refine hwp_indexArr A.und A.info (by omega) (by omega) ⟨_, rfl, ?_⟩
 rw [y47, Nat.mul_one, Int.toNat_natCast, Nat.zero_add]; exact K
theorem aio (A : Arr P t e n 1) {b off j : Nat} {k : IntKind} {i : Int} (hi : j < n) {R : Addr → Heap → Prop} (K : R ⟨b, off + j, none⟩ h) (hj : i = (j : Int) := by rfl) : hwp P (Instr.indexAt t (.pointer (some ⟨b, off, none⟩)) (.int k i)) (fun u h1 => ∃ t, u = .pointer (some t) ∧ R t h1) h := by
 subst hj
 refine hwp_indexArr A.und A.info (by omega) (by omega) ⟨_, rfl, ?_⟩
 rw [y47, Nat.mul_one, Int.toNat_natCast]; exact K
theorem Hs.conv {t e ty : TypeId} {b n c : Nat} {xs : List Value} {K : Value → Heap → Prop} (H : Hs h (pt b ty xs :: L)) (ht : P.underlying t = some (.slice e)) (he : P.underlying e = some (.int .u8))
  (kk : ∀ h', Hs h' (HW.rdO (some ⟨b, 0, none⟩) xs :: L) → K (.slice (some ⟨b, 0, none⟩) n c) h') : hwp P (Go.convert t t (.slice (some ⟨b, 0, none⟩) n c)) K h := by
 unfold Go.convert
 refine (y8 _ _ _ _).2 ((y22 ht).2 ((y8 _ _ _ _).2 ((y22 ht).2 ?_)))
 refine (y8 _ _ _ _).2 ((y22 he).2 ?_)
 simp only [beq_self_eq_true]
 refine (y8 _ _ _ _).2 ?_
 unfold markStringish
 refine (y8 _ _ _ _).2 ?_
 have hb := H.get
 have toR : ∀ {h' : Heap} {f : Nat × Nat}, Hs h' (ob b (.cells xs.toArray ty f) :: L) → Hs h' (HW.rdO (some ⟨b, 0, none⟩) xs :: L) := fun H' => H'.mono fun m hm i v hv => ⟨b, 0, _, ty, _, rfl, hm, by simpa using hv⟩
 show hwp P (match shapeH h b with | some (_, n) => _ | _ => _) _ h
 split
 ·rename_i ty2 n2 hs
  refine kk _ (toR (f := (n2, n2 + 1)) (H.chg (fun j hj => freeze_other _ _ _ _ hj) ?_))
  show (freezeH h ⟨b, n2, none⟩ 1)[b]? = _
  unfold freezeH World.freeze
  simp only [Nat.one_ne_zero, if_false, wOf, Array.getElem?_modify, if_true, hb, Option.map_some]
  rfl
 ·exact kk _ (toR H)
end
end Go.HW

namespace Go.HW
open Go
abbrev OA := Option Addr
abbrev VP := Value → Heap → Prop
abbrev EP := Ex → Fr → Heap → Prop
def pthA : Nat → Nat → List Nat → List Nat
 | 0, _, acc => acc
 | f + 1, n, acc => match Nat.ble n 1 with | true => acc | false => pthA f (n / 2) (n % 2 :: acc)
def pth (n : Nat) : List Nat := pthA 400 n []
theorem y19 {A T : Prop} (e : A = T) (H : T) : A := e ▸ H
theorem Jn.of_txt {P : Program} {top : Bool} {c : Code} (x : Ann) {fr : Fr} {K : EP} {h : Heap} {T : Prop} (e : ev P top none c x fr K h = T) (H : T) : Jn P top c fr K h := Jn.of_ev (x := x) (e ▸ H)
theorem Lp.of_txt {P : Program} {top : Bool} {c : Code} (x : Ann) (keep : Nat) {fr : Fr} {K : EP} {h : Heap} {T : Prop} (e : ev P top none c x fr (seqK (fun fr h => Lp P top c (fr.mask keep) K h) K) h = T) (H : T) : Lp P top c fr K h := Lp.of_ev (x := x) (keep := keep) (e ▸ H)
theorem Sc.of_txt {P : Program} {top : Bool} {c : Code} (x : Ann) (keep : List (Nat × Nat)) {o : Option Nat} {fr : Fr} {K : EP} {h : Heap} {T : Prop} (e : ev P top o c x fr (scopeK c (fun l fr h => Sc P top c (some l) (fr.mask (keepOf keep l)) K h) K) h = T) (H : T) : Sc P top c o fr K h := Sc.of_ev (x := x) (keep := keep) (e ▸ H)
theorem y12 {P : Program} {f : FuncId} {fn : Func} {c : Code} {ann : Ann} {args : List Value} {h : Heap} {Q : VP} {T : Prop}
  (hf : P.funcs[f]? = some fn) (hb : fn.body = some c) (hn : hasRange c = false) (e : ev P true none c ann (initFr fn.ntmps args) (bodyK P fn Q) h = T) (H : T) : SpecH P f args h Q := spec_of_ev (ann := ann) hf hb hn (e ▸ H)
theorem spec_of_txtR {P : Program} {f : FuncId} {fn : Func} {c : Code} {ann : Ann} {args : List Value} {h : Heap} {Q : VP} {T : Prop}
  (hf : P.funcs[f]? = some fn) (hb : fn.body = some c) (e : ev P true none c ann (initFr fn.ntmps args) (bodyKR P fn Q) h = T) (H : T) : SpecH P f args h Q := spec_of_evR (ann := ann) hf hb (e ▸ H)
end Go.HW

namespace Go.HW
open Go
def Em (m : PM) : Assn := fun m' => Sub m m'
def nd (m : PM) : PM := fun b => match m b with | some o => if isDef o then none else some o | none => none
theorem nd_sub (m : PM) : Sub (nd m) m := fun b o e => by
 unfold nd at e
 split at e
 ·split at e
  ·cases e
  ·rename_i h _; rw [h]; exact e
 ·cases e
theorem nd_not {m : PM} {b : Nat} {o : Obj} (e : nd m b = some o) : isDef o = false := by
 unfold nd at e
 split at e
 ·split at e
  ·cases e
  ·rename_i hh; cases e; simpa using hh
 ·cases e
theorem Gv.em {L M : List Assn} {m : PM} {a : Option Addr} {xs : List Value} (g : Gv L a xs) (s : Sp L m) : Gv (Em m :: M) a xs := fun h H => by
 obtain ⟨m1, m2, e, _, _, s1, _⟩ := H
 exact g h (Sp.sub s (e.trans s1))
theorem Hs.em {L : List Assn} {h : Heap} (H : Hs h L) : ∃ m, Sp L m ∧ Sub m (fun b => h[b]?) ∧ Hs h [Em m] :=
 ⟨fun b => h[b]?, H, .refl _, fun b => h[b]?, fun _ => none, Sub.refl _, trivial, fun _ => .inr rfl, .refl _, fun _ _ e => nomatch e⟩
theorem Hs.takes {L M : List Assn} {A : Assn} {h h1 h2 : Heap} {m : PM} (H : Hs h1 (A :: Em m :: M)) (s : Sp L m) (s0 : Sub m (fun b => h[b]?)) (t : Takes h1 h2) (k : KeepD h h2) (hA : ∀ m, A m → A (nd m)) : Hs h2 (A :: L) := by
 obtain ⟨m1, m2, a, ⟨m3, m4, e, _, _, s3, _⟩, d, s1, s2⟩ := H
 refine ⟨nd m1, m, hA _ a, s, ((d.sub (e.trans s3)).symm.sub (nd_sub _)).symm, fun b o eb => ?_, fun b o eb => ?_⟩
 ·exact t.get (s1 _ _ (nd_sub _ _ _ eb)) (nd_not eb)
 ·by_cases hd : isDef o = true
  ·exact k b o (s0 _ _ eb) hd
  ·exact t.get (s2 _ _ (s3 _ _ (e _ _ eb))) (by simpa using hd)
theorem nd_own {a : Option Addr} {n c : Nat} {e : TypeId} {sz : Nat} {xs : List Value} {m : PM} (h : own a n c e sz xs m) : own a n c e sz xs (nd m) := by
 unfold own at *
 refine ⟨h.1, h.2.1, h.2.2.imp id ?_⟩
 rintro ⟨b, off, ys, h1, h2, h3, h4⟩
 refine ⟨b, off, ys, h1, ?_, h3, h4⟩
 unfold nd; rw [h2]; rfl
end Go.HW

namespace Go.HW
open Go
section
variable {h : Heap} {L : List Assn}
theorem cutS {P : Program} {t e : TypeId} {sz bz : Nat} {z : Value} (E : Elem P t e sz bz z) {a : Option Addr} {n c i j : Nat} {xs : List Value} {lo hi : Option Value} {K : Value → Heap → Prop} (hr : Gv L a xs) (hn : xs.length = n * sz) (hnc : n ≤ c) (hn0 : a = none → c = 0) (hij : i ≤ j) (hj : j ≤ n) (hlo : bnd lo 0 = (i : Int)) (hhi : bnd hi (n : Int) = (j : Int))
  (H : ∀ a' c', Gv L a' ((xs.drop (i * sz)).take ((j - i) * sz)) → (a' = none → j - i = 0) → j - i ≤ c' → (a' = none → c' = 0) → K (.slice a' (j - i) c') h) (il : isInt lo := by trivial) (ih : isInt hi := by trivial) : hwp P (Instr.sliceAt t (.slice a n c) lo hi none) K h := by
 refine y169 (lo := lo) (hi := hi) E il ih (by omega) (by omega) (by omega) ?_
 have e1 : (bnd hi (n : Int)).toNat - (bnd lo 0).toNat = j - i := by omega
 have e2 : c - (bnd lo 0).toNat = c - i := by omega
 have e3 : (bnd lo 0).toNat = i := by omega
 rw [e1, e2, e3]
 have en : ∀ x : Option Addr, x = (if (c : Int) = bnd lo 0 then a else a.map (·.add (i * sz))) → x = none → c = 0 := by
  intro x hx hx0
  rw [hx0] at hx
  split at hx
  ·exact hn0 hx.symm
  ·cases a with
   | none => exact hn0 rfl
   | some ad => simp at hx
 refine H _ _ ?_ (fun h0 => by have := en _ rfl h0; omega) (by omega) (fun h0 => by have := en _ rfl h0; omega)
 by_cases hc : (c : Int) = bnd lo 0
 ·have : c = i := by omega
  rw [show j - i = 0 by omega, Nat.zero_mul, List.take_zero]; exact fun h _ => Rd.nil h _
 ·rw [if_neg hc]
  refine fun h2 H2 => (hr h2 H2).sub _ fun q v hv => ?_
  simp only [List.getElem?_take, List.getElem?_drop] at hv ⊢
  split at hv
  ·exact hv
  ·simp at hv
theorem idxG {α : Type} {φ : α → List Value} {P : Program} {t e : TypeId} {sz bz : Nat} {z : Value} (E : Elem P t e sz bz z) {a : Option Addr} {n c : Nat} {k : IntKind} {i : Int} {l : List α} {x : α} (g : Gv L a (l.flatMap φ)) (H : Hs h L) (hφ : ∀ x, (φ x).length = sz) (hs : 0 < sz) (h0 : 0 ≤ i) (hi : i < n) (hx : l[i.toNat]? = some x) {R : Addr → Heap → Prop} (K : ∀ t, (∀ h', Hs h' L → rdCells h' t 0 (φ x)) → R t h) : hwp P (Instr.indexAt t (.slice a n c) (.int k i)) (fun u h1 => ∃ t, u = .pointer (some t) ∧ R t h1) h := by
 have hne : φ x ≠ [] := fun e => by have := hφ x; rw [e] at this; simp at this; omega
 obtain ⟨v0, l0, e0⟩ := List.exists_cons_of_ne_nil hne
 have hg := flat_get hφ hx
 obtain ⟨ad, rfl, _⟩ := g h H _ _ (hg 0 v0 (by rw [e0]; rfl))
 refine hwp_index E h0 hi ⟨_, rfl, K _ fun h' H' => ?_⟩
 have key : ∀ (ws : List Value) (j0 : Nat), (∀ (j : Nat) v, ws[j]? = some v → (φ x)[j0 + j]? = some v) → rdCells h' (ad.add (i.toNat * sz)) j0 ws := by
  intro ws
  induction ws with
  | nil => exact fun _ _ => trivial
  | cons w ws ih =>
   intro j0 hw
   refine ⟨?_, ih (j0 + 1) fun j v hj => ?_⟩
   ·rw [add_add]; exact (g h' H').cell (hg _ _ (by have := hw 0 w rfl; simpa using this))
   ·have := hw (j + 1) v (by simpa using hj)
    rwa [show j0 + (j + 1) = j0 + 1 + j by omega] at this
 exact key _ 0 fun j v hj => by simpa using hj
theorem flat_cut {α : Type} {φ : α → List Value} {sz : Nat} (hφ : ∀ x, (φ x).length = sz) (l : List α) (i j : Nat) : ((l.flatMap φ).drop (i * sz)).take (j * sz) = ((l.drop i).take j).flatMap φ := by
 have hd : ∀ (l : List α) (i : Nat), (l.flatMap φ).drop (i * sz) = (l.drop i).flatMap φ := by
  intro l
  induction l with
  | nil => intro i; simp
  | cons x l ih =>
   intro i
   cases i with
   | zero => simp
   | succ i =>
    rw [List.flatMap_cons, List.drop_succ_cons, ← ih i, List.drop_append, hφ, List.drop_of_length_le (by rw [hφ, Nat.add_mul]; omega), List.nil_append]
    congr 1; rw [Nat.add_mul]; omega
 have ht : ∀ (l : List α) (j : Nat), (l.flatMap φ).take (j * sz) = (l.take j).flatMap φ := by
  intro l
  induction l with
  | nil => intro j; simp
  | cons x l ih =>
   intro j
   cases j with
   | zero => simp
   | succ j =>
    rw [List.flatMap_cons, List.take_succ_cons, List.flatMap_cons, ← ih j, List.take_append, hφ, List.take_of_length_le (by rw [hφ, Nat.add_mul]; omega)]
    congr 2; rw [Nat.add_mul]; omega
 rw [hd, ht]
end
end Go.HW

namespace Go.HW
open Go
@[reducible] def selL (n : Nat) (L : List Assn) : List Nat → List Assn
 | [] => L.drop n
 | i :: is => match L[i]? with | some A => A :: selL n L is | none => selL n L is
theorem selL_eq (n : Nat) (L : List Assn) : ∀ is : List Nat, selL n L is = is.filterMap (fun i => L[i]?) ++ L.drop n
 | [] => rfl
 | i :: is => by
  rw [selL, List.filterMap_cons, selL_eq n L is]
  cases L[i]? <;> rfl
theorem range_take (L : List Assn) : ∀ n : Nat, (List.range n).filterMap (fun i => L[i]?) = L.take n
 | 0 => by simp
 | n + 1 => by
  rw [List.range_succ, List.filterMap_append, range_take L n, List.take_add_one]
  congr 1
theorem Hs.sel {h : Heap} {L : List Assn} (H : Hs h L) (n : Nat) (is : List Nat) (hd : (decide is.Nodup && is.all (fun i => decide (i < n))) = true := by decide) : Hs h (selL n L is) := by
 rw [Bool.and_eq_true, decide_eq_true_eq, List.all_eq_true] at hd
 obtain ⟨h1, h2⟩ := hd
 have hp : (is ++ (List.range n).filter (fun i => !is.contains i)).Perm (List.range n) := by
  refine (List.perm_ext_iff_of_nodup (List.nodup_append.2 ⟨h1, List.nodup_range.filter _, ?_⟩) List.nodup_range).2 fun i => ?_
  ·rintro a ha b hb rfl
   have := (List.mem_filter.1 hb).2
   simp [ha] at this
  ·rw [List.mem_append, List.mem_filter, List.mem_range]
   constructor
   ·rintro (q | q)
    ·exact of_decide_eq_true (h2 i q)
    ·exact q.1
   ·intro q
    by_cases e : i ∈ is
    ·exact .inl e
    ·exact .inr ⟨q, by simp [e]⟩
 have hq := (hp.filterMap (fun i => L[i]?)).append_right (L.drop n)
 rw [range_take, List.take_append_drop, List.filterMap_append] at hq
 have H2 := H.perm hq.symm
 rw [selL_eq]
 have H3 : Hs h (((List.range n).filter (fun i => !is.contains i)).filterMap (fun i => L[i]?) ++ (is.filterMap (fun i => L[i]?) ++ L.drop n)) := H2.perm (by
  rw [List.append_assoc]
  exact List.perm_append_comm_assoc ..)
 have drop : ∀ (A : List Assn) {B : List Assn}, Hs h (A ++ B) → Hs h B := by
  intro A
  induction A with
  | nil => exact fun H => H
  | cons a A ih => exact fun H => ih H.tl
 exact drop _ H3
end Go.HW

namespace Go.HW
open Go

end Go.HW

namespace Go.HW
open Go
end Go.HW

namespace Go.HW
open Go
end Go.HW

namespace Go.HW
open Go
theorem hwp_append_made {P : Program} {t e t2 : TypeId} {bz : Nat} {z : Value} (E : Elem P t e 1 bz z) (hz : z.cells = #[z]) {k : IntKind} (hu : P.underlying t2 = some (.int k)) {ty : TypeId} {m : Nat} {h : Heap} {K : Value → Heap → Prop} (h0 : 0 < m)
    (hm : (2 * m + 192) * bz ≤ 2 ^ 48) (hm0 : m < 2 ^ 62)
    (H : ∀ c', m ≤ c' → c' < 2 ^ 63 → K (.slice (some ⟨h.size, 0, none⟩) m c') (h.push (.cells (List.replicate c' z).toArray e (0, 0)))) :
    hwp P (Builtin.append_ #[t, t2] ty #[.slice none 0 0, .int .i64 (m : Int)]) K h := by
  unfold Builtin.append_
  refine (y8 _ _ _ _).2 ((y22 E.und).2 ?_)
  refine (y8 _ _ _ _).2 (E.sizeOf.2 ?_)
  refine (y8 _ _ _ _).2 ((y22 hu).2 ?_)
  refine (y8 _ _ _ _).2 ?_
  refine pure_step (fun u => match u with | .int _ => true | _ => false) (.int k) true rfl ?_
  refine (y8 _ _ _ _).2 ?_
  have hw : IntKind.i64.wrap (m : Int) = (m : Int) := y46 (by omega) (by omega)
  obtain ⟨inf, hinf, hsz, hbz, hzz⟩ := E.info
  show hwp P (if IntKind.i64.wrap (m : Int) < 0 then _ else _) _ h
  rw [if_neg (by omega)]
  refine (y8 _ _ _ _).2 (E.typeInfo ?_)
  intro i0 hb0 _ _
  show hwp P (if IntKind.i64.wrap (m : Int) * (i0.bytes : Int) > 2 ^ 48 then _ else _) _ h
  have hle0 : m * bz ≤ (2 * m + 192) * bz := Nat.mul_le_mul_right bz (by omega)
  rw [if_neg (by rw [hw, hb0]; have : (m : Int) * (bz : Int) = ((m * bz : Nat) : Int) := by simp
                 rw [this]; omega)]
  show hwp P (if 0 + (IntKind.i64.wrap (m : Int)).toNat ≤ 0 then _ else _) K h
  rw [hw, Int.toNat_natCast, Nat.zero_add, if_neg (by omega)]
  have hcap := cap_le (need := m) (old := 0) (by omega)
  have hle := Nat.mul_le_mul_right bz hcap
  refine (y8 _ _ _ _).2 (E.typeInfo ?_)
  intro i1 hb1 _ _
  rw [if_neg (by rintro ⟨h1, _⟩; have : IntKind.i64.max = 9223372036854775807 := rfl; omega)]
  refine (y8 _ _ _ _).2 (E.typeInfo ?_)
  intro i2 hb2 _ _
  rw [if_neg (by rw [hb2]; omega)]
  refine (y8 _ _ _ _).2 ?_
  show ∀ t, _
  intro t
  have hnc : m ≤ (Question.appendCap m 0 e).cut t := by show _ ≤ m + _; omega
  have hnc2 : (Question.appendCap m 0 e).cut t < 2 ^ 63 := by
    show m + t % (2 ^ 63 - m) < 2 ^ 63
    have := Nat.mod_lt t (show 0 < 2 ^ 63 - m by omega)
    omega
  generalize (Question.appendCap m 0 e).cut t = nc at hnc hnc2 ⊢
  refine (y8 _ _ _ _).2 (E.typeInfo ?_)
  intro i3 hb3 _ _
  refine (y8 _ _ _ _).2 (hwp_askRoom ?_)
  refine (y8 _ _ _ _).2 (y174 (a := none) (xs := []) (by simp) (fun i v hv => by simp at hv) (fun _ => rfl) ?_)
  have zr : ∀ q, Builtin.zeroCells z.cells q = (List.replicate q z).toArray := by
    intro q
    rw [hz]; unfold Builtin.zeroCells
    apply Array.toList_inj.1
    simp only [List.size_toArray, List.length_singleton, Nat.mul_one, Nat.mod_one, Array.toList_map, Array.toList_range]
    refine List.ext_getElem (by simp) fun j h1 h2 => ?_
    simp
  refine (y8 _ _ _ _).2 ?_
  show hwp P (if m * 1 = 0 then _ else _) _ h
  rw [if_neg (by omega)]
  refine (y8 _ _ _ _).2 (E.zeroValue.2 ?_)
  show hwp P _ K h
  refine (y8 _ _ _ _).2 (E.zeroValue.2 ?_)
  rw [zr, zr]
  refine (y8 _ _ _ _).2 ?_
  show K (.slice (some ⟨h.size, 0, none⟩) m nc) (h.push (.cells (([] : List Value).toArray ++ (List.replicate m z).toArray ++ (List.replicate (nc - m) z).toArray) e (0, 0)))
  have hap : ([] : List Value).toArray ++ (List.replicate m z).toArray ++ (List.replicate (nc - m) z).toArray = (List.replicate nc z).toArray := by
    rw [show nc = m + (nc - m) by omega]; simp
  rw [hap]
  exact H nc hnc hnc2
theorem slArrHi {P : Program} {t e : TypeId} {n sz : Nat} (A : Arr P t e n sz) {b off m : Nat} {k : IntKind} {K : Value → Heap → Prop} {h : Heap} (hm : m ≤ n) (H : K (.slice (some ⟨b, off, none⟩) m n) h) : hwp P (Instr.sliceAt t (.pointer (some ⟨b, off, none⟩)) none (some (.int k (m : Int))) none) K h := by
 unfold Instr.sliceAt
 refine (y8 _ _ _ _).2 ((y22 A.und).2 ?_)
 refine (y8 _ _ _ _).2 ?_
 show hwp P (do let (l, h, m) ← Instr.sliceBounds false n n none (some (.int k (m : Int))) none; let size ← Go.sizeOf e; pure (Value.slice (some (if m = l then (⟨b, off, none⟩ : Addr) else (⟨b, off, none⟩ : Addr).add (l * size))) (h - l) (m - l))) K h
 refine (y8 _ _ _ _).2 ?_
 have key : hwp P (Instr.sliceBounds false n n none (some (.int k (m : Int))) none) (fun x h => hwp P (do let size ← Go.sizeOf e; pure (Value.slice (some (if x.2.2 = x.1 then (⟨b, off, none⟩ : Addr) else (⟨b, off, none⟩ : Addr).add (x.1 * size))) (x.2.1 - x.1) (x.2.2 - x.1))) K h) h := by
  unfold Instr.sliceBounds
  refine (y8 _ _ _ _).2 ?_
  show hwp P _ _ h
  refine (y8 _ _ _ _).2 (y168 (by omega) (by omega) ?_)
  show hwp P _ _ h
  refine (y8 _ _ _ _).2 ?_
  show hwp P (Go.sizeOf e >>= _) K h
  refine (y8 _ _ _ _).2 (A.sizeOf ?_)
  show K _ _
  simp only [Nat.zero_mul, Nat.sub_zero, y47, Nat.add_zero, ite_self, Int.toNat_natCast]
  exact H
 exact key
end Go.HW

set_option autoImplicit false
namespace Go.HW.PM
inductive Tr where
 | lf (i w : Nat)
 | nd (a b : Tr)
def wt : Tr → Nat | .lf _ w => w | .nd a b => wt a + wt b
def sy : Tr → List Nat | .lf i _ => [i] | .nd a b => sy a ++ sy b
def isLf : Tr → Bool | .lf _ _ => true | .nd _ _ => false
def kids : Tr → List Tr | .lf _ _ => [] | .nd a b => [a, b]
def pairs : List Tr → List Tr
 | a :: b :: l => .nd a b :: pairs l
 | _ => []
def odd : List Tr → List Tr
 | _ :: _ :: l => odd l
 | l => l
theorem pairs_kids : ∀ l : List Tr, (pairs l).flatMap kids ++ odd l = l
 | a :: b :: l => by simp [pairs, odd, kids, pairs_kids l]
 | [a] => rfl
 | [] => rfl
theorem y135 : ∀ {l : List Tr} {t : Tr}, t ∈ pairs l → ∃ a b, t = .nd a b ∧ a ∈ l ∧ b ∈ l
 | a :: b :: l, t, h => by
  simp only [pairs, List.mem_cons] at h
  rcases h with rfl | h
  ·exact ⟨a, b, rfl, by simp, by simp⟩
  ·obtain ⟨x, y, e, hx, hy⟩ := y135 h
   exact ⟨x, y, e, by simp [hx], by simp [hy]⟩
 | [a], t, h => by simp [pairs] at h
 | [], t, h => by simp [pairs] at h
theorem pairs_lf {l : List Tr} {t : Tr} (h : t ∈ pairs l) : isLf t = false := by
 obtain ⟨a, b, rfl, _, _⟩ := y135 h; rfl
theorem pairs_len : ∀ l : List Tr, (pairs l).length = l.length / 2
 | a :: b :: l => by simp only [pairs, List.length_cons, pairs_len l]; omega
 | [a] => by simp [pairs]
 | [] => rfl
theorem pairs_nodup : ∀ {l : List Tr}, l.Nodup → (pairs l).Nodup
 | a :: b :: l, h => by
  simp only [pairs, List.nodup_cons] at h ⊢
  refine ⟨fun hm => ?_, pairs_nodup h.2.2⟩
  obtain ⟨x, y, e, hx, hy⟩ := y135 hm
  injection e with e1 e2
  subst e1
  exact h.1 (by simp [hx])
 | [a], h => by simp [pairs]
 | [], h => by simp [pairs]
abbrev Sorted (l : List Tr) : Prop := l.Pairwise fun a b => wt a ≤ wt b
theorem pairs_order : ∀ {l : List Tr} {P R : Tr}, Sorted l → P ∈ pairs l → R ∈ pairs l → P = R ∨ (∀ x ∈ kids P, ∀ y ∈ kids R, wt x ≤ wt y) ∨ (∀ x ∈ kids P, ∀ y ∈ kids R, wt y ≤ wt x)
 | a :: b :: l, P, R, h, hp, hr => by
  have hl : Sorted l := (List.pairwise_cons.1 (List.pairwise_cons.1 h).2).2
  have h1 : ∀ x ∈ [a, b], ∀ y ∈ l, wt x ≤ wt y := by
   intro x hx y hy
   simp only [List.mem_cons, List.not_mem_nil, or_false] at hx
   rcases hx with rfl | rfl
   ·exact (List.pairwise_cons.1 h).1 y (by simp [hy])
   ·exact (List.pairwise_cons.1 (List.pairwise_cons.1 h).2).1 y hy
  have h2 : ∀ {T : Tr}, T ∈ pairs l → ∀ y ∈ kids T, y ∈ l := by
   intro T hT y hy
   obtain ⟨c, d, rfl, hc, hd⟩ := y135 hT
   simp only [kids, List.mem_cons, List.not_mem_nil, or_false] at hy
   rcases hy with rfl | rfl <;> assumption
  simp only [pairs, List.mem_cons] at hp hr
  rcases hp with rfl | hp <;> rcases hr with rfl | hr
  ·exact Or.inl rfl
  ·exact Or.inr (Or.inl fun x hx y hy => h1 x hx y (h2 hr y hy))
  ·exact Or.inr (Or.inr fun x hx y hy => h1 y hy x (h2 hp x hx))
  ·exact pairs_order hl hp hr
 | [a], P, R, h, hp, hr => by simp [pairs] at hp
 | [], P, R, h, hp, hr => by simp [pairs] at hp
theorem odd_last : ∀ {l : List Tr}, Sorted l → ∀ x ∈ l, ∀ y ∈ odd l, wt x ≤ wt y
 | a :: b :: l, h, x, hx, y, hy => by
  have hm : ∀ {l : List Tr} {z : Tr}, z ∈ odd l → z ∈ l := by
   intro l z hz; rw [← pairs_kids l]; simp [hz]
  simp only [odd] at hy
  have hl : Sorted l := (List.pairwise_cons.1 (List.pairwise_cons.1 h).2).2
  simp only [List.mem_cons] at hx
  rcases hx with rfl | rfl | hx
  ·exact (List.pairwise_cons.1 h).1 y (by simp [hm hy])
  ·exact (List.pairwise_cons.1 (List.pairwise_cons.1 h).2).1 y (hm hy)
  ·exact odd_last hl x hx y hy
 | [a], h, x, hx, y, hy => by
  simp only [odd, List.mem_cons, List.not_mem_nil, or_false] at hx hy; subst hx; subst hy; omega
 | [], h, x, hx, y, hy => by simp at hx
inductive Lv (lv : List Tr) : Nat → List Tr → Prop where
 | nil : Lv lv 0 []
 | step {j : Nat} {l l' : List Tr} : Lv lv j l → l'.Perm (lv ++ pairs l) → Sorted l' → Lv lv (j + 1) l'
variable {lv : List Tr}
structure Lvs (lv : List Tr) (ids : List Nat) : Prop where
 lf : ∀ t ∈ lv, isLf t = true ∧ 0 < wt t
 sym : lv.flatMap sy = ids
 nodup : ids.Nodup
theorem lf_of {t : Tr} (h : isLf t = true) : ∃ i w, t = .lf i w := by
 cases t with | lf i w => exact ⟨i, w, rfl⟩ | nd a b => simp [isLf] at h
theorem Lvs.nd {ids : List Nat} (H : Lvs lv ids) : lv.Nodup := by
 have h := H.nodup
 rw [← H.sym] at h
 have hl := H.lf
 clear H
 induction lv with
 | nil => simp
 | cons t l ih =>
  obtain ⟨i, w, rfl⟩ := lf_of (hl t (by simp)).1
  simp only [List.flatMap_cons, sy, List.nodup_append] at h
  refine List.nodup_cons.2 ⟨fun hm => ?_, ih h.2.1 fun t ht => hl t (by simp [ht])⟩
  exact h.2.2 i (by simp) i (List.mem_flatMap.2 ⟨_, hm, by simp [sy]⟩) rfl
theorem Lv.sorted {j : Nat} {l : List Tr} (h : Lv lv j l) : Sorted l := by
 cases h with | nil => exact .nil | step _ _ s => exact s
theorem Lv.nd {ids : List Nat} (H : Lvs lv ids) {j : Nat} {l : List Tr} (h : Lv lv j l) : l.Nodup := by
 induction h with
 | nil => simp
 | step _ p _ ih =>
  rw [p.nodup_iff, List.nodup_append]
  refine ⟨H.nd, pairs_nodup ih, fun a ha b hb e => ?_⟩
  subst e
  have := (H.lf a ha).1
  rw [pairs_lf hb] at this
  cases this
theorem Lv.pos {ids : List Nat} (H : Lvs lv ids) {j : Nat} {l : List Tr} (h : Lv lv j l) : ∀ t ∈ l, 0 < wt t ∧ ∀ i ∈ sy t, ∃ w, .lf i w ∈ lv ∧ w ≤ wt t := by
 induction h with
 | nil => simp
 | step _ p _ ih =>
  intro t ht
  rw [p.mem_iff, List.mem_append] at ht
  rcases ht with ht | ht
  ·obtain ⟨h1, h2⟩ := H.lf t ht
   obtain ⟨i, w, rfl⟩ := lf_of h1
   refine ⟨h2, fun k hk => ?_⟩
   simp only [sy, List.mem_cons, List.not_mem_nil, or_false] at hk
   subst hk
   exact ⟨w, ht, Nat.le_refl _⟩
  ·obtain ⟨a, b, rfl, ha, hb⟩ := y135 ht
   obtain ⟨a1, a2⟩ := ih a ha
   obtain ⟨b1, b2⟩ := ih b hb
   refine ⟨by simp only [wt]; omega, fun i hi => ?_⟩
   simp only [sy, List.mem_append] at hi
   rcases hi with hi | hi
   ·obtain ⟨w, h1, h2⟩ := a2 i hi; exact ⟨w, h1, by simp only [wt]; omega⟩
   ·obtain ⟨w, h1, h2⟩ := b2 i hi; exact ⟨w, h1, by simp only [wt]; omega⟩
theorem Lv.heavy {ids : List Nat} (H : Lvs lv ids) {j : Nat} {l : List Tr} (h : Lv lv j l) {P : Tr} (hP : P ∈ pairs l) {i : Nat} (hi : i ∈ sy P) : ∃ w, .lf i w ∈ lv ∧ w < wt P := by
 obtain ⟨a, b, rfl, ha, hb⟩ := y135 hP
 obtain ⟨a1, a2⟩ := h.pos H a ha
 obtain ⟨b1, b2⟩ := h.pos H b hb
 simp only [sy, List.mem_append] at hi
 rcases hi with hi | hi
 ·obtain ⟨w, h1, h2⟩ := a2 i hi; exact ⟨w, h1, by simp only [wt]; omega⟩
 ·obtain ⟨w, h1, h2⟩ := b2 i hi; exact ⟨w, h1, by simp only [wt]; omega⟩
def cn (X : List Tr) (i : Nat) : Nat := (X.flatMap sy).count i
theorem cn_app (X Y : List Tr) (i : Nat) : cn (X ++ Y) i = cn X i + cn Y i := by simp [cn, List.count_append]
theorem cn_perm {X Y : List Tr} (h : X.Perm Y) (i : Nat) : cn X i = cn Y i := by
 unfold cn
 exact (h.flatMap_right sy).count_eq i
theorem cn_kids : ∀ {S : List Tr} (_ : ∀ t ∈ S, isLf t = false) (i : Nat), cn S i = cn (S.flatMap kids) i
 | [], _, i => rfl
 | t :: S, h, i => by
  have h1 := h t (by simp)
  cases t with
  | lf i w => simp [isLf] at h1
  | nd a b =>
   rw [List.flatMap_cons, cn_app, ← cn_kids fun t ht => h t (by simp [ht])]
   simp [cn, kids, sy, List.count_append, Nat.add_assoc]
theorem kids_len : ∀ {S : List Tr} (_ : ∀ t ∈ S, isLf t = false), (S.flatMap kids).length = 2 * S.length
 | [], _ => rfl
 | t :: S, h => by
  have h1 := h t (by simp)
  cases t with
  | lf i w => simp [isLf] at h1
  | nd a b => rw [List.flatMap_cons, List.length_append, kids_len fun t ht => h t (by simp [ht])]; simp [kids]; omega
theorem cn_lv {A : List Tr} (hA : ∀ t ∈ A, isLf t = true) (i : Nat) : 0 < cn A i ↔ ∃ w, .lf i w ∈ A := by
 unfold cn
 rw [List.count_pos_iff, List.mem_flatMap]
 constructor
 ·rintro ⟨t, ht, hi⟩
  obtain ⟨k, w, rfl⟩ := lf_of (hA t ht)
  simp only [sy, List.mem_cons, List.not_mem_nil, or_false] at hi
  subst hi; exact ⟨w, ht⟩
 ·rintro ⟨w, h⟩; exact ⟨_, h, by simp [sy]⟩
theorem lf_len {A : List Tr} (hA : ∀ t ∈ A, isLf t = true) : (A.flatMap sy).length = A.length := by
 induction A with
 | nil => rfl
 | cons t A ih =>
  obtain ⟨k, w, rfl⟩ := lf_of (hA t (by simp))
  simp [sy, ih fun t ht => hA t (by simp [ht])]
theorem split_sum {ids : List Nat} {c c' : Nat → Nat} {K : Nat} (f : Nat → Nat) (hf : ∀ i ∈ ids, f i = 0 ∨ f i = 1) (h : ∀ i ∈ ids, c i = f i + c' i) (h0 : ∀ i ∈ ids, f i = 0 → c' i = 0) (hK : ∀ i ∈ ids, c' i ≤ K) :
  (ids.map fun i => 2 ^ (K + 1 - c i)).sum + (ids.map f).sum * 2 ^ K = (ids.map fun i => 2 ^ (K - c' i)).sum + ids.length * 2 ^ K := by
 induction ids with
 | nil => rfl
 | cons i ids ih =>
  have ih := ih (fun k hk => hf k (by simp [hk])) (fun k hk => h k (by simp [hk])) (fun k hk => h0 k (by simp [hk])) (fun k hk => hK k (by simp [hk]))
  simp only [List.map_cons, List.sum_cons, List.length_cons, Nat.add_mul, Nat.one_mul]
  have e := h i (by simp)
  have hk := hK i (by simp)
  rcases hf i (by simp) with h1 | h1
  ·have h2 := h0 i (by simp) h1
   rw [h1, h2] at e
   have : 2 ^ (K + 1 - c i) = 2 ^ (K - c' i) + 2 ^ K := by rw [e, h2]; simp only [Nat.add_zero, Nat.sub_zero, Nat.pow_succ]; omega
   rw [h1]
   omega
  ·have : K + 1 - c i = K - c' i := by omega
   rw [this, h1]
   omega
theorem main {ids : List Nat} (H : Lvs lv ids) {j : Nat} {l : List Tr} (h : Lv lv j l) : ∀ {X Y : List Tr}, (X ++ Y).Perm l → (∀ x ∈ X, ∀ y ∈ Y, wt x ≤ wt y) →
  (∀ i, cn X i ≤ j) ∧ ∀ K, j ≤ K → 2 * (ids.map fun i => 2 ^ (K - cn X i)).sum + X.length * 2 ^ K = 2 * ids.length * 2 ^ K := by
 induction h with
 | nil =>
  intro X Y hp hw
  have := hp.length_eq
  simp only [List.length_append, List.length_nil] at this
  obtain rfl : X = [] := List.eq_nil_of_length_eq_zero (by omega)
  refine ⟨fun i => by simp [cn], fun K _ => ?_⟩
  have : (ids.map fun i => 2 ^ (K - cn [] i)) = ids.map fun _ => 2 ^ K := by simp [cn]
  rw [this, List.map_const', List.sum_replicate_nat]
  simp [Nat.mul_assoc]
 | @step j l l' hl p hs ih =>
  intro X Y hp hw
  have hp := hp.trans p
  have flv : lv.filter isLf = lv := List.filter_eq_self.2 fun t ht => (H.lf t ht).1
  have fpr : (pairs l).filter isLf = [] := List.filter_eq_nil_iff.2 fun t ht => by simp [pairs_lf ht]
  have flv2 : lv.filter (fun t => !isLf t) = [] := List.filter_eq_nil_iff.2 fun t ht => by simp [(H.lf t ht).1]
  have fpr2 : (pairs l).filter (fun t => !isLf t) = pairs l := List.filter_eq_self.2 fun t ht => by simp [pairs_lf ht]
  have hA := hp.filter isLf
  have hS := hp.filter fun t => !isLf t
  rw [List.filter_append, List.filter_append, flv, fpr, List.append_nil] at hA
  rw [List.filter_append, List.filter_append, flv2, fpr2, List.nil_append] at hS
  have hX : (X.filter isLf ++ X.filter fun t => !isLf t).Perm X := List.filter_append_perm isLf X
  have hXA : ∀ t ∈ X.filter isLf, t ∈ X := fun t ht => (List.mem_filter.1 ht).1
  have hXS : ∀ t ∈ X.filter (fun t => !isLf t), t ∈ X := fun t ht => (List.mem_filter.1 ht).1
  have hYT : ∀ t ∈ Y.filter (fun t => !isLf t), t ∈ Y := fun t ht => (List.mem_filter.1 ht).1
  have hYB : ∀ t ∈ Y.filter isLf, t ∈ Y := fun t ht => (List.mem_filter.1 ht).1
  have hAl : ∀ t ∈ X.filter isLf, isLf t = true := fun t ht => (List.mem_filter.1 ht).2
  have hSl : ∀ t ∈ X.filter (fun t => !isLf t), isLf t = false := fun t ht => by simpa using (List.mem_filter.1 ht).2
  generalize X.filter isLf = A at *
  generalize X.filter (fun t => !isLf t) = S at *
  generalize Y.filter isLf = B at *
  generalize Y.filter (fun t => !isLf t) = T at *
  have hk : (S.flatMap kids ++ (T.flatMap kids ++ odd l)).Perm l := by
   have := hS.flatMap_right kids
   rw [List.flatMap_append] at this
   have := this.append_right (odd l)
   rw [pairs_kids, List.append_assoc] at this
   exact this
  have hST : (S ++ T).Nodup := hS.nodup_iff.2 (pairs_nodup (hl.nd H))
  have hSm : ∀ t ∈ S, t ∈ pairs l := fun t ht => hS.mem_iff.1 (by simp [ht])
  have hTm : ∀ t ∈ T, t ∈ pairs l := fun t ht => hS.mem_iff.1 (by simp [ht])
  obtain ⟨ih1, ih2⟩ := ih hk (by
   intro x hx y hy
   obtain ⟨P, hP, hx⟩ := List.mem_flatMap.1 hx
   rw [List.mem_append] at hy
   rcases hy with hy | hy
   ·obtain ⟨R, hR, hy⟩ := List.mem_flatMap.1 hy
    have hne : P ≠ R := fun e => by
     subst e
     exact (List.nodup_append.1 hST).2.2 P hP P hR rfl
    have hPR := hw P (hXS P hP) R (hYT R hR)
    rcases pairs_order hl.sorted (hSm P hP) (hTm R hR) with e | e | e
    ·exact absurd e hne
    ·exact e x hx y hy
    ·obtain ⟨a, b, rfl, _, _⟩ := y135 (hSm P hP)
     obtain ⟨c, d, rfl, _, _⟩ := y135 (hTm R hR)
     have e1 := e a (by simp [kids]) c (by simp [kids])
     have e2 := e a (by simp [kids]) d (by simp [kids])
     have e3 := e b (by simp [kids]) c (by simp [kids])
     have e4 := e b (by simp [kids]) d (by simp [kids])
     simp only [wt] at hPR
     simp only [kids, List.mem_cons, List.not_mem_nil, or_false] at hx hy
     rcases hx with rfl | rfl <;> rcases hy with rfl | rfl <;> omega
   ·obtain ⟨a, b, rfl, ha, hb⟩ := y135 (hSm P hP)
    simp only [kids, List.mem_cons, List.not_mem_nil, or_false] at hx
    rcases hx with rfl | rfl
    ·exact odd_last hl.sorted _ ha y hy
    ·exact odd_last hl.sorted _ hb y hy)
  have hc : ∀ i, cn X i = cn A i + cn (S.flatMap kids) i := fun i => by rw [← cn_perm hX, cn_app, cn_kids hSl]
  have hin : ∀ i, 0 < cn (S.flatMap kids) i → 0 < cn A i := by
   intro i hi
   rw [← cn_kids hSl] at hi
   unfold cn at hi
   obtain ⟨P, hP, hiP⟩ := List.mem_flatMap.1 (List.count_pos_iff.1 hi)
   obtain ⟨w, h1, h2⟩ := hl.heavy H (hSm P hP) hiP
   have : .lf i w ∈ A ++ B := hA.mem_iff.2 h1
   rw [List.mem_append] at this
   rcases this with h3 | h3
   ·exact (cn_lv hAl i).2 ⟨w, h3⟩
   ·have := hw P (hXS P hP) _ (hYB _ h3)
    simp only [wt] at this
    omega
  have hAB : ∀ i, cn A i + cn B i = ids.count i := fun i => by
   rw [← cn_app, cn_perm hA, ← H.sym]; rfl
  have h1 : ∀ i, cn A i ≤ 1 := fun i => by
   have := hAB i
   have := List.nodup_iff_count.1 H.nodup i
   omega
  refine ⟨fun i => by rw [hc]; have := h1 i; have := ih1 i; omega, fun K hK => ?_⟩
  obtain ⟨K, rfl⟩ : ∃ K', K = K' + 1 := ⟨K - 1, by omega⟩
  have e1 := split_sum (ids := ids) (c := cn X) (c' := cn (S.flatMap kids)) (K := K) (cn A) (fun i _ => by have := h1 i; omega) (fun i _ => hc i) (fun i _ h0 => by
   rcases Nat.eq_zero_or_pos (cn (S.flatMap kids) i) with h | h
   ·exact h
   ·have := hin i h; omega) (fun i _ => Nat.le_trans (ih1 i) (by omega))
  have e2 := ih2 K (by omega)
  have e3 : (ids.map (cn A)).sum = A.length := by
   have hsub : ∀ i ∈ A.flatMap sy, i ∈ ids := fun i hi => by
    rw [← H.sym, (hA.flatMap_right sy).symm.mem_iff]; simp [List.flatMap_append]; exact Or.inl (by simpa using hi)
   rw [← lf_len hAl]
   clear hin hc e1 e2 ih1 ih2
   have gen : ∀ (ids l : List Nat), ids.Nodup → (∀ i ∈ l, i ∈ ids) → (ids.map fun i => l.count i).sum = l.length := by
    intro ids l hn
    induction l with
    | nil => intro _; simp [List.map_const', List.sum_replicate_nat]
    | cons x l ih =>
     intro hs
     have hx := hs x (by simp)
     have := ih fun i hi => hs i (by simp [hi])
     have e : (ids.map fun i => (x :: l).count i).sum = (ids.map fun i => l.count i).sum + ids.count x := by
      clear this hx hs ih hn
      induction ids with
      | nil => rfl
      | cons y ys ih2 =>
       simp only [List.map_cons, List.sum_cons, List.count_cons] at ih2 ⊢
       rw [ih2]
       have : (x == y) = (y == x) := by
        rcases Nat.decEq x y with h | h
        ·rw [beq_false_of_ne h, beq_false_of_ne (Ne.symm h)]
        ·rw [h]
       rw [this]; omega
     have hx1 := List.nodup_iff_count.1 hn x
     have hx2 := List.count_pos_iff.2 hx
     rw [e, this, List.length_cons]; omega
   exact gen ids (A.flatMap sy) H.nodup hsub
  have e4 := kids_len hSl
  have e5 : X.length = A.length + S.length := by rw [← hX.length_eq, List.length_append]
  rw [e3] at e1
  rw [e4] at e2
  rw [e5]
  have q0 : ∀ x : Nat, x * 2 ^ (K + 1) = 2 * (x * 2 ^ K) := fun x => by rw [Nat.pow_succ, ← Nat.mul_assoc, Nat.mul_comm]
  have q1 := q0 A.length
  have q2 := q0 S.length
  have q3 : 2 * ids.length * 2 ^ (K + 1) = 4 * (ids.length * 2 ^ K) := by rw [q0, Nat.mul_assoc]; omega
  have q4 : 2 * ids.length * 2 ^ K = 2 * (ids.length * 2 ^ K) := by rw [Nat.mul_assoc]
  have q5 : 2 * S.length * 2 ^ K = 2 * (S.length * 2 ^ K) := by rw [Nat.mul_assoc]
  rw [Nat.add_mul, q1, q2, q3]
  rw [q4, q5] at e2
  omega
theorem Lv.many {j : Nat} {l : List Tr} (h : Lv lv j l) : ∀ m, 1 ≤ j → lv.length ≤ m * 2 ^ (j - 1) → 2 * lv.length ≤ l.length + m := by
 induction h with
 | nil => intro m h; omega
 | @step j l l' hl p _ ih =>
  intro m _ hm
  rw [p.length_eq, List.length_append, pairs_len]
  rcases Nat.eq_zero_or_pos j with rfl | hj
  ·simp only [Nat.zero_add, Nat.sub_self, Nat.pow_zero, Nat.mul_one] at hm; omega
  ·have := ih (2 * m) hj (by
    rw [show j + 1 - 1 = (j - 1) + 1 by omega, Nat.pow_succ] at hm
    rw [Nat.mul_assoc, Nat.mul_comm 2, Nat.mul_assoc]; exact hm)
   omega
theorem whole {ids : List Nat} (H : Lvs lv ids) {j : Nat} {l : List Tr} (h : Lv lv j l) (hn : 2 ≤ ids.length) (hj : ids.length ≤ 2 ^ j) :
  2 * ids.length - 2 ≤ l.length ∧ (∀ i, cn (l.take (2 * ids.length - 2)) i ≤ j) ∧ (∀ i ∈ ids, 1 ≤ cn (l.take (2 * ids.length - 2)) i) ∧
  ∀ K, j ≤ K → (ids.map fun i => 2 ^ (K - cn (l.take (2 * ids.length - 2)) i)).sum = 2 ^ K := by
 have hj1 : 1 ≤ j := by
  rcases Nat.eq_zero_or_pos j with rfl | h
  ·simp at hj; omega
  ·exact h
 have hlen : lv.length = ids.length := by rw [← H.sym, lf_len fun t ht => (H.lf t ht).1]
 have hm := h.many 2 hj1 (by rw [hlen]; rw [show 2 * 2 ^ (j - 1) = 2 ^ j by rw [← Nat.pow_succ']; congr 1; omega]; exact hj)
 have hs := h.sorted
 have hx : ∀ x ∈ l.take (2 * ids.length - 2), ∀ y ∈ l.drop (2 * ids.length - 2), wt x ≤ wt y := by
  intro x hx y hy
  have := hs
  rw [← List.take_append_drop (2 * ids.length - 2) l] at this
  exact (List.pairwise_append.1 this).2.2 x hx y hy
 obtain ⟨m1, m2⟩ := main H h (X := l.take (2 * ids.length - 2)) (Y := l.drop (2 * ids.length - 2)) (by rw [List.take_append_drop]) hx
 have hl : (l.take (2 * ids.length - 2)).length = 2 * ids.length - 2 := by rw [List.length_take]; omega
 have m3 : ∀ K, j ≤ K → (ids.map fun i => 2 ^ (K - cn (l.take (2 * ids.length - 2)) i)).sum = 2 ^ K := by
  intro K hK
  have := m2 K hK
  rw [hl] at this
  have q : 2 * ids.length * 2 ^ K = (2 * ids.length - 2) * 2 ^ K + 2 * 2 ^ K := by rw [← Nat.add_mul]; congr 1; omega
  omega
 refine ⟨by omega, m1, fun i hi => ?_, m3⟩
 rcases Nat.eq_zero_or_pos (cn (l.take (2 * ids.length - 2)) i) with h0 | h0
 ·exfalso
  have e := m3 j (Nat.le_refl _)
  obtain ⟨s, t, rfl⟩ := List.append_of_mem hi
  simp only [List.map_append, List.map_cons, List.sum_append, List.sum_cons, h0, Nat.sub_zero] at e
  have pos : ∀ (f : Nat → Nat) (l : List Nat), (∀ i, 0 < f i) → 0 < l.length → 0 < (l.map f).sum := by
   intro f l hf hl
   cases l with
   | nil => simp at hl
   | cons a l => simp only [List.map_cons, List.sum_cons]; have := hf a; omega
  simp only [List.length_append, List.length_cons] at hn
  have p2 : ∀ i, 0 < 2 ^ (j - cn (l.take (2 * (s ++ i :: t).length - 2)) i) := fun i => Nat.pow_pos (by decide)
  rcases Nat.eq_zero_or_pos s.length with hs | hs
  ·have := pos (fun k => 2 ^ (j - cn (l.take (2 * (s ++ i :: t).length - 2)) k)) t (fun k => Nat.pow_pos (by decide)) (by omega)
   simp only [List.length_append, List.length_cons] at this e
   omega
  ·have := pos (fun k => 2 ^ (j - cn (l.take (2 * (s ++ i :: t).length - 2)) k)) s (fun k => Nat.pow_pos (by decide)) (by omega)
   simp only [List.length_append, List.length_cons] at this e
   omega
 ·exact h0
end Go.HW.PM

set_option autoImplicit false
namespace Go.HW
inductive Pz (α : Type) where
 | ret (a : α)
 | err (e : Int)
 | take (n : Nat) (k : Nat → Pz α)
 | align (k : Pz α)
 | lay (c : Nat) (k : Pz α)
 | get (k : List Nat → Pz α)
inductive Rz (α : Type) where
 | ok (a : α) (p : Nat) (o : List Nat)
 | bad (e : Int) (o : List Nat)
namespace Pz
variable {α β : Type}
def bind : Pz α → (α → Pz β) → Pz β
 | ret a, f => f a
 | err e, _ => err e
 | take n k, f => take n fun v => (k v).bind f
 | align k, f => align (k.bind f)
 | lay c k, f => lay c (k.bind f)
 | get k, f => get fun o => (k o).bind f
def run (V L lim : Nat) : Pz α → Nat → List Nat → Rz α
 | ret a, p, o => .ok a p o
 | err e, _, o => .bad e o
 | take n k, p, o => if p + n ≤ L then run V L lim (k (V / 2 ^ p % 2 ^ n)) (p + n) o else .bad 55 o
 | align k, p, o => run V L lim k ((p + 7) / 8 * 8) o
 | lay c k, p, o => if o.length < lim then run V L lim k p (o ++ [c]) else .bad 56 o
 | get k, p, o => run V L lim (k o) p o
variable {V L lim : Nat}
theorem run_bind (q : Pz α) (f : α → Pz β) : ∀ (p : Nat) (o : List Nat), run V L lim (q.bind f) p o = match run V L lim q p o with | .ok a p' o' => run V L lim (f a) p' o' | .bad e o' => .bad e o' := by
 induction q with
 | ret a => intros; rfl
 | err e => intros; rfl
 | take n k ih => intro p o; simp only [bind, run]; split <;> first | exact ih _ _ _ | rfl
 | align k ih => intro p o; simp only [bind, run]; exact ih _ _
 | lay c k ih => intro p o; simp only [bind, run]; split <;> first | exact ih _ _ | rfl
 | get k ih => intro p o; simp only [bind, run]; exact ih _ _ _
def Rz.out : Rz α → List Nat | .ok _ _ o => o | .bad _ o => o
theorem run_out (q : Pz α) : ∀ (p : Nat) (o : List Nat), o <+: Rz.out (run V L lim q p o) ∧ (o.length ≤ lim → (Rz.out (run V L lim q p o)).length ≤ lim) := by
 induction q with
 | ret a => intro p o; exact ⟨List.prefix_refl _, id⟩
 | err e => intro p o; exact ⟨List.prefix_refl _, id⟩
 | take n k ih => intro p o; simp only [run]; split <;> first | exact ih _ _ _ | exact ⟨List.prefix_refl _, id⟩
 | align k ih => intro p o; simp only [run]; exact ih _ _
 | lay c k ih =>
  intro p o; simp only [run]; split
  ·obtain ⟨h1, h2⟩ := ih p (o ++ [c])
   exact ⟨(List.prefix_append o [c]).trans h1, fun h => h2 (by simp; omega)⟩
  ·exact ⟨List.prefix_refl _, id⟩
 | get k ih => intro p o; simp only [run]; exact ih _ _ _
theorem run_at (h8 : 8 ∣ L) (q : Pz α) : ∀ {p : Nat} {o : List Nat} {a : α} {p' : Nat} {o' : List Nat}, run V L lim q p o = .ok a p' o' → p ≤ L → p ≤ p' ∧ p' ≤ L := by
 induction q with
 | ret a => intro p o a p' o' h hp; simp only [run, Rz.ok.injEq] at h; omega
 | err e => intro p o a p' o' h; simp [run] at h
 | take n k ih => intro p o a p' o' h hp; simp only [run] at h; split at h <;> first | cases h; done | (have := ih _ h (by omega); omega)
 | align k ih => intro p o a p' o' h hp; simp only [run] at h; have := ih h (by omega); omega
 | lay c k ih => intro p o a p' o' h hp; simp only [run] at h; split at h <;> first | exact ih h hp | cases h
 | get k ih => intro p o a p' o' h hp; simp only [run] at h; exact ih _ h hp
theorem run_more {V2 L2 : Nat} (hV : V = V2 % 2 ^ L) (hL : L ≤ L2) (h8 : 8 ∣ L) (q : Pz α) : ∀ (p : Nat) (o : List Nat), p ≤ L →
  (∃ o', run V L lim q p o = .bad 55 o' ∧ o' <+: Rz.out (run V2 L2 lim q p o)) ∨ run V2 L2 lim q p o = run V L lim q p o := by
 induction q with
 | ret a => intro p o hp; exact Or.inr rfl
 | err e => intro p o hp; exact Or.inr rfl
 | take n k ih =>
  intro p o hp
  rcases Nat.lt_or_ge L (p + n) with h | h
  ·refine Or.inl ⟨o, ?_, (run_out _ _ _).1⟩
   simp only [run]; rw [if_neg (by omega)]
  ·have e : V / 2 ^ p % 2 ^ n = V2 / 2 ^ p % 2 ^ n := by
    rw [hV, show L = p + (L - p) by omega, Nat.pow_add, Nat.mod_mul_right_div_self, Nat.mod_mod_of_dvd _ (Nat.pow_dvd_pow 2 (by omega))]
   simp only [run]
   rw [if_pos (by omega), if_pos (by omega), e]
   exact ih _ _ _ (by omega)
 | align k ih => intro p o hp; simp only [run]; exact ih _ _ (by omega)
 | lay c k ih =>
  intro p o hp; simp only [run]; split
  ·exact ih _ _ hp
  ·exact Or.inr rfl
 | get k ih => intro p o hp; simp only [run]; exact ih _ _ _ hp
theorem run_lim {l2 : Nat} (q : Pz α) : ∀ {p : Nat} {o : List Nat} {a : α} {p' : Nat} {o' : List Nat}, run V L lim q p o = .ok a p' o' → o.length ≤ l2 →
  if o'.length ≤ l2 then run V L l2 q p o = .ok a p' o' else ∃ o2, run V L l2 q p o = .bad 56 o2 := by
 induction q with
 | ret a => intro p o a p' o' h hl; simp only [run, Rz.ok.injEq] at h; obtain ⟨rfl, rfl, rfl⟩ := h; rw [if_pos hl]; rfl
 | err e => intro p o a p' o' h; simp [run] at h
 | take n k ih =>
  intro p o a p' o' h hl; simp only [run] at h ⊢; split at h
  ·rename_i hc; have := ih _ h hl; simp only [if_pos hc]; exact this
  ·cases h
 | align k ih => intro p o a p' o' h hl; simp only [run] at h ⊢; exact ih h hl
 | lay c k ih =>
  intro p o a p' o' h hl; simp only [run] at h ⊢; split at h
  ·rename_i hc
   have hle : (o ++ [c]).length ≤ o'.length := by
    have := (run_out (V := V) (L := L) (lim := lim) k p (o ++ [c])).1
    rw [h] at this
    exact this.length_le
   rw [List.length_append, List.length_singleton] at hle
   rcases Nat.lt_or_ge o.length l2 with h2 | h2
   ·simp only [if_pos h2]; exact ih h (by simp; omega)
   ·rw [if_neg (by omega)]; simp only [if_neg (show ¬ o.length < l2 by omega)]; exact ⟨_, rfl⟩
  ·cases h
 | get k ih => intro p o a p' o' h hl; simp only [run] at h ⊢; exact ih _ h hl
structure Bz where
 x : Nat
 k : Nat
def Bz.wf (b : Bz) : Prop := b.x < 2 ^ b.k
def Bz.cat (a b : Bz) : Bz := ⟨a.x + b.x * 2 ^ a.k, a.k + b.k⟩
def Bz.nil : Bz := ⟨0, 0⟩
theorem Bz.wf_nil : Bz.nil.wf := by simp [Bz.wf, Bz.nil]
theorem Bz.wf_cat {a b : Bz} (ha : a.wf) (hb : b.wf) : (a.cat b).wf := by
 unfold Bz.wf Bz.cat at *
 simp only
 rw [Nat.pow_add, Nat.mul_comm (2 ^ a.k)]
 have : b.x * 2 ^ a.k + 2 ^ a.k ≤ 2 ^ b.k * 2 ^ a.k := by rw [← Nat.succ_mul]; exact Nat.mul_le_mul_right _ hb
 omega
theorem Bz.cat_nil (a : Bz) : a.cat .nil = a := by simp [Bz.cat, Bz.nil]
theorem Bz.nil_cat (a : Bz) : Bz.nil.cat a = a := by simp [Bz.cat, Bz.nil]
theorem Bz.cat_assoc (a b c : Bz) : (a.cat b).cat c = a.cat (b.cat c) := by
 simp only [Bz.cat, Bz.mk.injEq]
 refine ⟨?_, by omega⟩
 rw [Nat.add_mul, Nat.pow_add, Nat.add_assoc, Nat.mul_assoc, Nat.mul_comm (2 ^ b.k)]
def At (V L p : Nat) (b : Bz) : Prop := V / 2 ^ p % 2 ^ b.k = b.x ∧ p + b.k ≤ L
theorem At.left {p : Nat} {a b : Bz} (ha : a.wf) (h : At V L p (a.cat b)) : At V L p a := by
 obtain ⟨h1, h2⟩ := h
 simp only [Bz.cat] at h1 h2
 refine ⟨?_, by omega⟩
 have : V / 2 ^ p % 2 ^ (a.k + b.k) % 2 ^ a.k = V / 2 ^ p % 2 ^ a.k := Nat.mod_mod_of_dvd _ (Nat.pow_dvd_pow 2 (by omega))
 rw [← this, h1, Nat.add_mul_mod_self_right, Nat.mod_eq_of_lt ha]
theorem At.right {p : Nat} {a b : Bz} (ha : a.wf) (h : At V L p (a.cat b)) : At V L (p + a.k) b := by
 obtain ⟨h1, h2⟩ := h
 simp only [Bz.cat] at h1 h2
 refine ⟨?_, by omega⟩
 rw [Nat.pow_add, ← Nat.div_div_eq_div_mul]
 have : V / 2 ^ p / 2 ^ a.k % 2 ^ b.k = V / 2 ^ p % 2 ^ (a.k + b.k) / 2 ^ a.k := by rw [Nat.pow_add, Nat.mod_mul_right_div_self]
 rw [this, h1, Nat.add_mul_div_right _ _ (Nat.pow_pos (by decide)), Nat.div_eq_of_lt ha, Nat.zero_add]
def Tells (q : Pz α) (b : Bz) (a : α) (o o' : List Nat) : Prop := ∀ (V L lim p : Nat), At V L p b → o'.length ≤ lim → run V L lim q p o = .ok a (p + b.k) o'
theorem Tells.ret (a : α) (o : List Nat) : Tells (.ret a) .nil a o o := fun _ _ _ _ _ _ => rfl
theorem Tells.take {n : Nat} {k : Nat → Pz α} {v : Nat} {b : Bz} {a : α} {o o' : List Nat} (hv : v < 2 ^ n) (h : Tells (k v) b a o o') : Tells (.take n k) ((Bz.mk v n).cat b) a o o' := by
 intro V L lim p hA hl
 have h1 := At.left (a := ⟨v, n⟩) hv hA
 have h2 := At.right (a := ⟨v, n⟩) hv hA
 simp only [run]
 have e1 := h1.1; have e2 := h1.2
 simp only at e1 e2
 rw [if_pos e2, e1, h _ _ _ _ h2 hl]
 simp [Bz.cat, Nat.add_assoc]
theorem Tells.bind {q : Pz α} {f : α → Pz β} {b c : Bz} {a : α} {r : β} {o o' o'' : List Nat} (hb : b.wf) (h1 : Tells q b a o o') (h2 : Tells (f a) c r o' o'') (hl : o'.length ≤ o''.length) : Tells (q.bind f) (b.cat c) r o o'' := by
 intro V L lim p hA hlim
 rw [run_bind, h1 _ _ _ _ (hA.left hb) (by omega)]
 simp only
 rw [h2 _ _ _ _ (hA.right hb) hlim]
 simp [Bz.cat, Nat.add_assoc]
theorem Tells.lay {c : Nat} {k : Pz α} {b : Bz} {a : α} {o o' : List Nat} (h : Tells k b a (o ++ [c]) o') (hl : o.length < o'.length) : Tells (.lay c k) b a o o' := by
 intro V L lim p hA hlim
 simp only [run]
 rw [if_pos (by omega)]
 exact h _ _ _ _ hA hlim
theorem Tells.get {k : List Nat → Pz α} {b : Bz} {a : α} {o o' : List Nat} (h : Tells (k o) b a o o') : Tells (.get k) b a o o' := fun _ _ _ _ hA hl => h _ _ _ _ hA hl
end Pz
end Go.HW

set_option autoImplicit false
namespace Go.HW.Can
open Go.HW Go.HW.Pz
def cnt (l : List Nat) (n : Nat) : Nat := if n = 0 then 0 else l.count n
def base (l : List Nat) : Nat → Nat
 | 0 => 0
 | n + 1 => 2 * (base l n + cnt l n)
def kr : List Nat → Nat
 | [] => 0
 | n :: l => (if n = 0 then 0 else 2 ^ (15 - n)) + kr l
def used : List Nat → Nat
 | [] => 0
 | n :: l => (if n = 0 then 0 else 1) + used l
def chk (l : List Nat) : Nat := if 2 ^ 15 < kr l then 30 else if kr l < 2 ^ 15 ∧ (used l ≠ 1 ∨ kr l ≠ 2 ^ 14) then 31 else 0
theorem chk_kr {l : List Nat} (h : chk l = 0) : kr l ≤ 2 ^ 15 := by
 unfold chk at h; split at h
 ·cases h
 ·omega
def krTo (l : List Nat) (m : Nat) : Nat := (l.map fun n => if n = 0 ∨ m < n then 0 else 2 ^ (15 - n)).sum
theorem krTo_le (l : List Nat) (m : Nat) : krTo l m ≤ kr l := by
 unfold krTo
 induction l with
 | nil => simp [kr]
 | cons n l ih =>
  simp only [List.map_cons, List.sum_cons, kr]
  have : (if n = 0 ∨ m < n then 0 else 2 ^ (15 - n)) ≤ if n = 0 then 0 else 2 ^ (15 - n) := by
   by_cases h : n = 0
   ·simp [h]
   ·rw [if_neg h]; split <;> simp
  omega
theorem krTo_zero (l : List Nat) : krTo l 0 = 0 := by
 unfold krTo
 induction l with
 | nil => rfl
 | cons n l ih => simp only [List.map_cons, List.sum_cons, ih]; rw [if_pos (by omega)]
theorem krTo_succ (l : List Nat) (m : Nat) : krTo l (m + 1) = krTo l m + cnt l (m + 1) * 2 ^ (15 - (m + 1)) := by
 unfold krTo cnt
 rw [if_neg (by omega)]
 induction l with
 | nil => simp
 | cons n l ih =>
  simp only [List.map_cons, List.sum_cons, ih, List.count_cons]
  rcases Nat.lt_trichotomy n (m + 1) with h | h | h
  ·have : (n == m + 1) = false := by simp; omega
   rw [this]
   by_cases h0 : n = 0
   ·subst h0; simp
   ·rw [if_neg (by omega), if_neg (by omega)]; simp; omega
  ·subst h
   rw [if_neg (by omega), if_pos (by omega)]; simp [Nat.add_mul]; omega
  ·have : (n == m + 1) = false := by simp; omega
   rw [this, if_pos (by omega), if_pos (by omega)]; simp
theorem base_kr (l : List Nat) : ∀ m, m ≤ 15 → (base l m + cnt l m) * 2 ^ (15 - m) = krTo l m
 | 0, _ => by simp [base, cnt, krTo_zero]
 | m + 1, h => by
  rw [krTo_succ, ← base_kr l m (by omega)]
  have : 15 - m = (15 - (m + 1)) + 1 := by omega
  rw [this, Nat.pow_succ, base, Nat.add_mul, Nat.mul_comm 2, Nat.mul_assoc, Nat.mul_comm 2]
theorem base_fits {l : List Nat} (h : kr l ≤ 2 ^ 15) {m : Nat} (hm : m ≤ 15) : base l m + cnt l m ≤ 2 ^ m := by
 have h1 := base_kr l m hm
 have h2 := krTo_le l m
 have h3 : 2 ^ 15 = 2 ^ m * 2 ^ (15 - m) := by rw [← Nat.pow_add]; congr 1; omega
 refine Nat.le_of_mul_le_mul_right (c := 2 ^ (15 - m)) ?_ (Nat.pow_pos (by decide))
 rw [h1, ← h3]; omega
theorem base_up (l : List Nat) (m : Nat) : ∀ k, (base l m + cnt l m) * 2 ^ (k + 1) ≤ base l (m + k + 1)
 | 0 => by simp [base]; omega
 | k + 1 => by
  have := base_up l m k
  rw [show m + (k + 1) + 1 = (m + k + 1) + 1 by omega, base, Nat.pow_succ, ← Nat.mul_assoc]
  omega
def code (l : List Nat) (i : Nat) : Nat := base l (l.getD i 0) + (l.take i).count (l.getD i 0)
theorem rank_lt {l : List Nat} {i : Nat} (hi : i < l.length) : (l.take i).count (l.getD i 0) < l.count (l.getD i 0) := by
 have e : l.getD i 0 = l[i] := by simp [hi]
 rw [e]
 have := congrArg (List.count l[i]) (List.take_append_drop i l)
 rw [List.count_append, List.drop_eq_getElem_cons hi, List.count_cons_self] at this
 omega
theorem code_lt {l : List Nat} {i : Nat} (hi : i < l.length) (h0 : l.getD i 0 ≠ 0) : base l (l.getD i 0) ≤ code l i ∧ code l i < base l (l.getD i 0) + cnt l (l.getD i 0) := by
 unfold code cnt
 rw [if_neg h0]
 have := rank_lt hi
 omega
theorem code_fits {l : List Nat} (h : kr l ≤ 2 ^ 15) {i : Nat} (hi : i < l.length) (h0 : l.getD i 0 ≠ 0) (h15 : l.getD i 0 ≤ 15) : code l i < 2 ^ l.getD i 0 := by
 have := base_fits h h15
 have := code_lt hi h0
 omega
def idxs (l : List Nat) (n : Nat) : List Nat := (List.range l.length).filter fun i => l.getD i 0 == n
theorem filter_range (p : Nat → Bool) {i m : Nat} (hi : i < m) (hp : p i = true) : ((List.range m).filter p).getD ((List.range i).filter p).length 0 = i := by
 obtain ⟨k, rfl⟩ : ∃ k, m = i + (k + 1) := ⟨m - i - 1, by omega⟩
 rw [List.range_add, List.filter_append, List.getD_eq_getElem?_getD, List.getElem?_append_right (Nat.le_refl _), Nat.sub_self, List.range_succ_eq_map, List.map_cons, List.filter_cons_of_pos (by simpa using hp)]
 simp
theorem count_range (l : List Nat) (n : Nat) : ∀ i, i ≤ l.length → ((List.range i).filter fun i => l.getD i 0 == n).length = (l.take i).count n
 | 0, _ => by simp
 | i + 1, h => by
  rw [List.range_succ, List.filter_append, List.length_append, count_range l n i (by omega), List.take_succ_eq_append_getElem (by omega), List.count_append]
  have e : l.getD i 0 = l[i] := by simp [show i < l.length by omega]
  congr 1
  rw [List.filter_cons, e]
  split <;> rename_i hc
  ·simp at hc; subst hc; simp
  ·simp at hc; simp [hc]
theorem idxs_len (l : List Nat) (n : Nat) : (idxs l n).length = l.count n := by
 unfold idxs; rw [count_range l n _ (Nat.le_refl _), List.take_length]
theorem idxs_at {l : List Nat} {i : Nat} (hi : i < l.length) : (idxs l (l.getD i 0)).getD (code l i - base l (l.getD i 0)) 0 = i := by
 unfold code idxs
 rw [Nat.add_sub_cancel_left, ← count_range l _ i (by omega)]
 exact filter_range (fun k => l.getD k 0 == l.getD i 0) hi (by simp)
theorem idxs_mem {l : List Nat} {n k : Nat} (h : k < l.count n) : (idxs l n).getD k 0 < l.length := by
 have h2 : k < (idxs l n).length := by rw [idxs_len]; exact h
 have : (idxs l n).getD k 0 = (idxs l n)[k] := by simp [h2]
 rw [this]
 have := List.getElem_mem h2
 unfold idxs at this
 exact List.mem_range.1 (List.mem_filter.1 this).1
def tn (c : Nat) : Nat → Nat
 | 0 => 0
 | n + 1 => 2 * tn c n + c / 2 ^ n % 2
theorem tn_lt (c : Nat) : ∀ n, tn c n < 2 ^ n
 | 0 => by simp [tn]
 | n + 1 => by have := tn_lt c n; simp only [tn, Nat.pow_succ]; omega
def longest (l : List Nat) : Nat := l.foldr max 0
theorem longest_ge {l : List Nat} {x : Nat} (h : x ∈ l) : x ≤ longest l := by
 induction l with
 | nil => simp at h
 | cons a l ih =>
  simp only [longest, List.foldr_cons] at ih ⊢
  rcases List.mem_cons.1 h with rfl | h
  ·omega
  ·have := ih h; omega
theorem longest_le {l : List Nat} {m : Nat} (h : ∀ x ∈ l, x ≤ m) : longest l ≤ m := by
 induction l with
 | nil => simp [longest]
 | cons a l ih =>
  have h1 := h a (by simp); have h2 := ih fun x hx => h x (by simp [hx])
  simp only [longest, List.foldr_cons] at *; omega
def nx (l : List Nat) (bad : Int) : Nat → Nat → Nat → Pz Nat
 | 0, _, _ => .err bad
 | f + 1, n, c => .take 1 fun b => if base l (n + 1) ≤ 2 * c + b ∧ 2 * c + b < base l (n + 1) + cnt l (n + 1) then .ret ((idxs l (n + 1)).getD (2 * c + b - base l (n + 1)) 0) else nx l bad f (n + 1) (2 * c + b)
def next (l : List Nat) (bad : Int) : Pz Nat := nx l bad (longest l) 0 0
def cd (l : List Nat) (i : Nat) : Bz := ⟨tn (code l i) (l.getD i 0), l.getD i 0⟩
theorem cd_wf (l : List Nat) (i : Nat) : (cd l i).wf := tn_lt _ _
theorem nx_tells {l : List Nat} {bad : Int} (h : kr l ≤ 2 ^ 15) {i : Nat} (hi : i < l.length) (h0 : l.getD i 0 ≠ 0) (h15 : l.getD i 0 ≤ 15) {o : List Nat} :
  ∀ (r f n : Nat), n + r = l.getD i 0 → 0 < r → r ≤ f → Tells (nx l bad f n (code l i / 2 ^ r)) ⟨tn (code l i) r, r⟩ i o o
 | 0, _, _, _, h, _ => by omega
 | r + 1, 0, _, _, _, h => by omega
 | r + 1, f + 1, n, hn, _, hf => by
  have hb : (⟨tn (code l i) (r + 1), r + 1⟩ : Bz) = Bz.cat ⟨code l i / 2 ^ r % 2, 1⟩ ⟨tn (code l i) r, r⟩ := by
   simp only [Bz.cat, tn, Bz.mk.injEq]; omega
  rw [hb]
  have hc : 2 * (code l i / 2 ^ (r + 1)) + code l i / 2 ^ r % 2 = code l i / 2 ^ r := by
   rw [Nat.pow_succ, ← Nat.div_div_eq_div_mul]; omega
  refine Tells.take (by omega) ?_
  simp only [hc]
  obtain ⟨c1, c2⟩ := code_lt hi h0
  rcases Nat.eq_zero_or_pos r with rfl | hr
  ·have e : n + 1 = l.getD i 0 := by omega
   rw [Nat.pow_zero, Nat.div_one, e, if_pos ⟨c1, c2⟩, idxs_at hi]
   exact (show (⟨tn (code l i) 0, 0⟩ : Bz) = .nil from rfl) ▸ Tells.ret _ _
  ·rw [if_neg]
   ·exact nx_tells h hi h0 h15 r f (n + 1) (by omega) hr (by omega)
   ·have hu := base_up l (n + 1) (r - 1)
    have e : n + 1 + (r - 1) + 1 = l.getD i 0 := by omega
    rw [e, show r - 1 + 1 = r by omega] at hu
    have : base l (n + 1) + cnt l (n + 1) ≤ code l i / 2 ^ r := (Nat.le_div_iff_mul_le (Nat.pow_pos (by decide))).2 (by omega)
    omega
theorem next_tells {l : List Nat} {bad : Int} (h : kr l ≤ 2 ^ 15) {i : Nat} (hi : i < l.length) (h0 : l.getD i 0 ≠ 0) (h15 : ∀ x ∈ l, x ≤ 15) {o : List Nat} : Tells (next l bad) (cd l i) i o o := by
 have e : l.getD i 0 = l[i] := by simp [hi]
 have hm : l.getD i 0 ∈ l := by rw [e]; exact List.getElem_mem hi
 have := nx_tells (bad := bad) (o := o) h hi h0 (h15 _ hm) (l.getD i 0) (longest l) 0 (by omega) (by omega) (longest_ge hm)
 rwa [Nat.div_eq_of_lt (code_fits h hi h0 (h15 _ hm))] at this
theorem next_sym {l : List Nat} {bad : Int} {V L lim p : Nat} {o o' : List Nat} {s p' : Nat} (h : run V L lim (next l bad) p o = .ok s p' o') : s < l.length ∧ p < p' ∧ o' = o := by
 have gen : ∀ (f n c p : Nat), run V L lim (nx l bad f n c) p o = .ok s p' o' → s < l.length ∧ p < p' ∧ o' = o := by
  intro f
  induction f with
  | zero => intro n c p h; simp [nx, run] at h
  | succ f ih =>
   intro n c p h
   simp only [nx, run] at h
   split at h
   ·split at h
    ·rename_i hc
     simp only [run, Rz.ok.injEq] at h
     obtain ⟨rfl, rfl, rfl⟩ := h
     have hcn : cnt l (n + 1) = l.count (n + 1) := by simp [cnt]
     exact ⟨idxs_mem (by omega), by omega, rfl⟩
    ·have := ih _ _ _ h
     exact ⟨this.1, by omega, this.2.2⟩
   ·cases h
 exact gen _ _ _ _ h
end Go.HW.Can

set_option autoImplicit false
namespace Go.HW.Inf
open Go.HW Go.HW.Pz Go.HW.Can
def widthOf (s : Nat) : Nat := if s = 16 then 2 else if s = 17 then 3 else if s = 18 then 7 else 0
def fromOf (s : Nat) : Nat := if s = 16 then 3 else if s = 17 then 3 else if s = 18 then 11 else 0
def order : List Nat := [16, 17, 18, 0, 8, 7, 9, 6, 10, 5, 11, 4, 12, 3, 13, 2, 14, 1, 15]
def add (l : List Nat) (s x n : Nat) : Option (List Nat) :=
 if s = 16 ∧ l = [] then none
 else if l.length + (if s > 15 then fromOf s + x else 1) > n then none
 else some (l ++ List.replicate (if s > 15 then fromOf s + x else 1) (if s = 16 then l.getD (l.length - 1) 0 else if s > 15 then 0 else s))
def rdCodes : List Nat → List Nat → Pz (List Nat)
 | [], acc => .ret acc
 | s :: r, acc => .take 3 fun v => rdCodes r (acc.set s v)
def rdLens (codes : List Nat) (n : Nat) : Nat → List Nat → Pz (List Nat)
 | 0, l => .ret l
 | f + 1, l => if n ≤ l.length then .ret l else (next codes 52).bind fun s => .take (widthOf s) fun x =>
   match add l s x n with
   | none => .err 52
   | some l' => rdLens codes n f l'
def lensP : Pz (List Nat × List Nat) :=
 .take 5 fun a => .take 5 fun b => .take 4 fun c =>
  if 257 + a > 286 ∨ 1 + b > 30 then .err 52 else
  (rdCodes (order.take (4 + c)) (List.replicate 19 0)).bind fun codes =>
   if chk codes ≠ 0 then .err 52 else
   (rdLens codes (257 + a + (1 + b)) (257 + a + (1 + b)) []).bind fun l => .ret (l.take (257 + a), l.drop (257 + a))
def headOk (lit dist : List Nat) : Bool := decide (lit.getD 256 0 ≠ 0 ∧ chk lit = 0 ∧ (longest dist = 0 ∨ chk dist = 0))
def headP : Pz (List Nat × List Nat) := lensP.bind fun r => if headOk r.1 r.2 = true then .ret r else .err 52
def fixLit : List Nat := List.replicate 144 8 ++ List.replicate 112 9 ++ List.replicate 24 7 ++ List.replicate 8 8
def fixDist : List Nat := List.replicate 32 5
def lenP (s : Nat) : Pz Nat := if s = 285 then .ret 258 else if s > 264 then .take ((s - 261) / 4) fun x => .ret (3 + (4 + (s - 261) % 4) * 2 ^ ((s - 261) / 4) + x) else .ret (s - 254)
def distP (d : Nat) : Pz Nat := if d > 3 then .take (d / 2 - 1) fun x => .ret (1 + (2 + d % 2) * 2 ^ (d / 2 - 1) + x) else .ret (d + 1)
def cpP (far : Nat) : Nat → Pz Unit
 | 0 => .ret ()
 | n + 1 => .get fun o => .lay (o.getD (o.length - far) 0) (cpP far n)
def copyP (dist : List Nat) (s : Nat) : Pz Unit :=
 if s > 285 then .err 53 else (lenP s).bind fun n => if longest dist = 0 then .err 53 else (next dist 53).bind fun d => if d > 29 then .err 53 else
  (distP d).bind fun far => .get fun o => if far > o.length then .err 54 else cpP far n
def symP (lit dist : List Nat) : Nat → Pz Unit
 | 0 => .err 55
 | f + 1 => (next lit 53).bind fun s => if s = 256 then .ret () else if s < 256 then .lay s (symP lit dist f) else (copyP dist s).bind fun _ => symP lit dist f
def layP : Nat → Pz Unit
 | 0 => .ret ()
 | n + 1 => .take 8 fun c => .lay c (layP n)
def storedP : Pz Unit := .align (.take 16 fun n => .take 16 fun m => if n + m ≠ 65535 then .err 51 else layP n)
def bodyP (F : Nat) (kind : Nat) : Pz Unit :=
 if kind = 0 then storedP else if kind = 1 then symP fixLit fixDist F else if kind = 2 then headP.bind fun r => symP r.1 r.2 F else .err 50
def blocksP (F : Nat) : Nat → Pz Unit
 | 0 => .err 55
 | f + 1 => .take 1 fun last => .take 2 fun kind => (bodyP F kind).bind fun _ => if last = 0 then blocksP F f else .ret ()
def FF : Nat := 2 ^ 30
def inflP : Pz Unit := blocksP FF FF
abbrev Stp := Nat × Nat
def adds (n : Nat) : List Stp → List Nat → Option (List Nat)
 | [], l => some l
 | s :: r, l => match add l s.1 s.2 n with | none => none | some l' => adds n r l'
theorem adds_app (n : Nat) (r t : List Stp) : ∀ l, adds n (r ++ t) l = (adds n r l).bind (adds n t) := by
 induction r with
 | nil => intro l; rfl
 | cons s r ih =>
  intro l; simp only [List.cons_append, adds]
  cases add l s.1 s.2 n with
  | none => rfl
  | some l' => exact ih l'
theorem from_pos {s : Nat} (h : s ≤ 18) (x : Nat) : 0 < if s > 15 then fromOf s + x else 1 := by
 unfold fromOf; repeat' split
 all_goals omega
theorem add_len {l l' : List Nat} {s x n : Nat} (hs : s ≤ 18) (h : add l s x n = some l') : l.length < l'.length ∧ l'.length ≤ n := by
 unfold add at h
 have := from_pos hs x
 generalize (if s > 15 then fromOf s + x else 1) = k at *
 split at h
 ·cases h
 ·split at h
  ·cases h
  ·injection h with h; subst h
   rw [List.length_append, List.length_replicate]
   omega
theorem add_le {l l' : List Nat} {s x n : Nat} (h : add l s x n = some l') (hl : ∀ v ∈ l, v ≤ 15) : ∀ v ∈ l', v ≤ 15 := by
 unfold add at h
 generalize (if s > 15 then fromOf s + x else 1) = k at *
 split at h
 ·cases h
 ·split at h
  ·cases h
  ·injection h with h; subst h
   intro v hv
   rw [List.mem_append] at hv
   rcases hv with hv | hv
   ·exact hl v hv
   ·rw [(List.mem_replicate.1 hv).2]
    split
    ·rcases Nat.lt_or_ge (l.length - 1) l.length with h1 | h1
     ·rw [show l.getD (l.length - 1) 0 = l[l.length - 1] by simp [h1]]; exact hl _ (List.getElem_mem h1)
     ·rw [show l.getD (l.length - 1) 0 = 0 by simp [List.getD_eq_getElem?_getD, List.getElem?_eq_none h1]]; omega
    ·split <;> omega
def stepB (codes : List Nat) (s : Stp) : Bz := (cd codes s.1).cat ⟨s.2, widthOf s.1⟩
def stepsB (codes : List Nat) : List Stp → Bz
 | [] => .nil
 | s :: r => (stepB codes s).cat (stepsB codes r)
structure StpOk (codes : List Nat) (s : Stp) : Prop where
 sym : s.1 < codes.length
 top : s.1 ≤ 18
 some : codes.getD s.1 0 ≠ 0
 more : s.2 < 2 ^ widthOf s.1
theorem stepB_wf {codes : List Nat} {s : Stp} (h : s.2 < 2 ^ widthOf s.1) : (stepB codes s).wf := Bz.wf_cat (cd_wf _ _) h
theorem stepsB_wf {codes : List Nat} : ∀ {r : List Stp}, (∀ s ∈ r, s.2 < 2 ^ widthOf s.1) → (stepsB codes r).wf
 | [], _ => Bz.wf_nil
 | s :: r, h => Bz.wf_cat (stepB_wf (h s (by simp))) (stepsB_wf fun s hs => h s (by simp [hs]))
theorem Tells.take' {α : Type} {n v : Nat} {k : Nat → Pz α} {a : α} {o o' : List Nat} (hv : v < 2 ^ n) (h : Tells (k v) .nil a o o') : Tells (.take n k) ⟨v, n⟩ a o o' := by
 have := Tells.take (k := k) hv h
 rwa [Bz.cat_nil] at this
theorem rdLens_tells {codes : List Nat} (hk : kr codes ≤ 2 ^ 15) (h15 : ∀ x ∈ codes, x ≤ 15) {n : Nat} {o : List Nat} : ∀ (r : List Stp) (f : Nat) (l0 l : List Nat), (∀ s ∈ r, StpOk codes s) → adds n r l0 = some l → l.length = n → r.length ≤ f →
  Tells (rdLens codes n f l0) (stepsB codes r) l o o
 | [], 0, l0, l, _, ha, hl, _ => by simp only [adds, Option.some.injEq] at ha; subst ha; exact Tells.ret _ _
 | [], f + 1, l0, l, _, ha, hl, _ => by
  simp only [adds, Option.some.injEq] at ha; subst ha
  simp only [rdLens]; rw [if_pos (by omega)]; exact Tells.ret _ _
 | s :: r, 0, _, _, _, _, _, h => by simp at h
 | s :: r, f + 1, l0, l, hs, ha, hl, hf => by
  obtain ⟨h1, ht, h2, h3⟩ := hs s (by simp)
  simp only [adds] at ha
  rcases e : add l0 s.1 s.2 n with _ | l'
  ·rw [e] at ha; cases ha
  ·rw [e] at ha
   have hlt : ¬ n ≤ l0.length := by
    have := add_len ht e
    omega
   simp only [rdLens]; rw [if_neg hlt]
   unfold stepsB stepB
   rw [Bz.cat_assoc]
   refine Tells.bind (cd_wf _ _) (next_tells hk h1 h2 h15) ?_ (Nat.le_refl _)
   refine Tells.take h3 ?_
   simp only [e]
   exact rdLens_tells hk h15 r f l' l (fun s hs' => hs s (by simp [hs'])) ha hl (by simpa using hf)

theorem adds_len {n : Nat} : ∀ {r : List Stp} {l0 l : List Nat}, (∀ s ∈ r, s.1 ≤ 18) → adds n r l0 = some l → l0.length + r.length ≤ l.length ∧ (l0.length ≤ n → l.length ≤ n)
 | [], l0, l, _, h => by simp only [adds, Option.some.injEq] at h; subst h; simp
 | s :: r, l0, l, hs, h => by
  simp only [adds] at h
  rcases e : add l0 s.1 s.2 n with _ | l'
  ·rw [e] at h; cases h
  ·rw [e] at h
   have h1 := add_len (hs s (by simp)) e
   have h2 := adds_len (fun s hs' => hs s (by simp [hs'])) h
   simp only [List.length_cons]; omega
def codesB (c : List Nat) : List Nat → Bz
 | [] => .nil
 | s :: r => Bz.cat ⟨c.getD s 0, 3⟩ (codesB c r)
theorem codesB_wf {c : List Nat} (h7 : ∀ x ∈ c, x ≤ 7) : ∀ r, (codesB c r).wf
 | [] => Bz.wf_nil
 | s :: r => Bz.wf_cat (by
   show c.getD s 0 < 2 ^ 3
   rcases Nat.lt_or_ge s c.length with h | h
   ·rw [show c.getD s 0 = c[s] by simp [h]]; have := h7 _ (List.getElem_mem h); omega
   ·rw [show c.getD s 0 = 0 by simp [List.getD_eq_getElem?_getD, List.getElem?_eq_none h]]; omega) (codesB_wf h7 r)
def puts (c : List Nat) : List Nat → List Nat → List Nat
 | [], acc => acc
 | s :: r, acc => puts c r (acc.set s (c.getD s 0))
theorem rdCodes_tells {c : List Nat} (h7 : ∀ x ∈ c, x ≤ 7) {o : List Nat} : ∀ (r acc : List Nat), Tells (rdCodes r acc) (codesB c r) (puts c r acc) o o
 | [], acc => Tells.ret _ _
 | s :: r, acc => by
  refine Tells.take ?_ (rdCodes_tells h7 r _)
  rcases Nat.lt_or_ge s c.length with h | h
  ·rw [show c.getD s 0 = c[s] by simp [h]]; have := h7 _ (List.getElem_mem h); omega
  ·rw [show c.getD s 0 = 0 by simp [List.getD_eq_getElem?_getD, List.getElem?_eq_none h]]; omega
theorem puts_get {c : List Nat} : ∀ (r acc : List Nat), acc.length = c.length → (puts c r acc).length = c.length ∧ ∀ i, i < c.length → (puts c r acc).getD i 0 = if i ∈ r then c.getD i 0 else acc.getD i 0
 | [], acc, h => ⟨h, fun i hi => by simp [puts]⟩
 | s :: r, acc, h => by
  obtain ⟨h1, h2⟩ := puts_get r (acc.set s (c.getD s 0)) (by simpa using h)
  refine ⟨h1, fun i hi => ?_⟩
  rw [puts, h2 i hi]
  by_cases hr : i ∈ r
  ·simp [hr]
  ·rw [if_neg hr]
   by_cases hs : i = s
   ·subst hs; rw [if_pos (by simp)]; simp [List.getD_eq_getElem?_getD, h, hi]
   ·rw [if_neg (by simp [hs, hr])]; simp [List.getD_eq_getElem?_getD, Ne.symm hs]
theorem ext0 {a b : List Nat} (h : a.length = b.length) (h2 : ∀ i, i < b.length → a.getD i 0 = b.getD i 0) : a = b := by
 refine List.ext_getElem h fun i h3 h4 => ?_
 have := h2 i h4
 simpa [h3, h4] using this
def lensB (a b many : Nat) (codes : List Nat) (r : List Stp) : Bz := Bz.cat ⟨a - 257, 5⟩ (Bz.cat ⟨b - 1, 5⟩ (Bz.cat ⟨many - 4, 4⟩ ((codesB codes (order.take many)).cat (stepsB codes r))))
theorem lens_tells {lit dist codes : List Nat} {many : Nat} {r : List Stp} (hl1 : 257 ≤ lit.length) (hl2 : lit.length ≤ 286) (hd1 : 1 ≤ dist.length) (hd2 : dist.length ≤ 30) (hm1 : 4 ≤ many) (hm2 : many ≤ 19)
  (hc : codes.length = 19) (h7 : ∀ x ∈ codes, x ≤ 7) (hk : chk codes = 0) (hz : ∀ i, i < 19 → i ∉ order.take many → codes.getD i 0 = 0) (hr : ∀ s ∈ r, StpOk codes s) (ha : adds (lit.length + dist.length) r [] = some (lit ++ dist)) {o : List Nat} :
  (lensB lit.length dist.length many codes r).wf ∧ Tells lensP (lensB lit.length dist.length many codes r) (lit, dist) o o := by
 have w1 : lit.length - 257 < 2 ^ 5 := by omega
 have w2 : dist.length - 1 < 2 ^ 5 := by omega
 have w3 : many - 4 < 2 ^ 4 := by omega
 have wc := codesB_wf h7 (order.take many)
 have ws : (stepsB codes r).wf := stepsB_wf fun s hs => (hr s hs).more
 refine ⟨Bz.wf_cat w1 (Bz.wf_cat w2 (Bz.wf_cat w3 (Bz.wf_cat wc ws))), ?_⟩
 unfold lensP lensB
 refine Tells.take w1 (Tells.take w2 (Tells.take w3 ?_))
 rw [if_neg (by omega), show 4 + (many - 4) = many by omega, show 257 + (lit.length - 257) = lit.length by omega, show 1 + (dist.length - 1) = dist.length by omega]
 refine Tells.bind wc (rdCodes_tells h7 _ _) ?_ (Nat.le_refl _)
 have e : puts codes (order.take many) (List.replicate 19 0) = codes := by
  obtain ⟨h1, h2⟩ := puts_get (c := codes) (order.take many) (List.replicate 19 0) (by rw [hc]; simp)
  refine ext0 h1 fun i hi => ?_
  rw [h2 i hi]
  split
  ·rfl
  ·rename_i hn
   rw [hz i (by omega) hn, List.getD_eq_getElem?_getD, List.getElem?_replicate, if_pos (by omega)]; rfl
 rw [e, if_neg (by simp [hk])]
 have hal := adds_len (fun s hs => (hr s hs).top) ha
 have := Tells.bind (f := fun l : List Nat => (Pz.ret (l.take lit.length, l.drop lit.length) : Pz (List Nat × List Nat))) ws (rdLens_tells (o := o) (chk_kr hk) (fun x hx => Nat.le_trans (h7 x hx) (by omega)) r (lit.length + dist.length) [] (lit ++ dist) hr ha (by simp) (by simp at hal; omega)) (by
  rw [List.take_left', List.drop_left'] <;> first | rfl | exact Tells.ret _ _) (Nat.le_refl _)
 rwa [Bz.cat_nil] at this
def lenS (n : Nat) : Nat × Nat × Nat := if n = 258 then (285, 0, 0) else if n < 11 then (n + 254, 0, 0) else (261 + 4 * (Nat.log2 (n - 3) - 2) + (n - 3) / 2 ^ (Nat.log2 (n - 3) - 2) - 4, (n - 3) % 2 ^ (Nat.log2 (n - 3) - 2), Nat.log2 (n - 3) - 2)
def distS (d : Nat) : Nat × Nat × Nat := if d - 1 < 4 then (d - 1, 0, 0) else (2 + 2 * (Nat.log2 (d - 1) - 1) + (d - 1) / 2 ^ (Nat.log2 (d - 1) - 1) - 2, (d - 1) % 2 ^ (Nat.log2 (d - 1) - 1), Nat.log2 (d - 1) - 1)
theorem top_bits {m j : Nat} (h : 2 ^ j ≤ m) : ∃ q r, m = q * 2 ^ (Nat.log2 m - j) + r ∧ r < 2 ^ (Nat.log2 m - j) ∧ 2 ^ j ≤ q ∧ q < 2 ^ (j + 1) ∧ m / 2 ^ (Nat.log2 m - j) = q ∧ m % 2 ^ (Nat.log2 m - j) = r := by
 have hm : m ≠ 0 := by have := Nat.pow_pos (n := j) (show 0 < 2 by decide); omega
 have hj : j ≤ Nat.log2 m := (Nat.le_log2 hm).2 h
 have h1 : 2 ^ Nat.log2 m ≤ m := (Nat.le_log2 hm).1 (Nat.le_refl _)
 have h2 : m < 2 ^ (Nat.log2 m + 1) := (Nat.log2_lt hm).1 (Nat.lt_succ_self _)
 have hp : 0 < 2 ^ (Nat.log2 m - j) := Nat.pow_pos (by decide)
 refine ⟨m / 2 ^ (Nat.log2 m - j), m % 2 ^ (Nat.log2 m - j), ?_, Nat.mod_lt _ hp, (Nat.le_div_iff_mul_le hp).2 ?_, (Nat.div_lt_iff_lt_mul hp).2 ?_, rfl, rfl⟩
 ·rw [Nat.mul_comm]; exact (Nat.div_add_mod _ _).symm
 ·rw [← Nat.pow_add, show j + (Nat.log2 m - j) = Nat.log2 m by omega]; exact h1
 ·rw [← Nat.pow_add, show j + 1 + (Nat.log2 m - j) = Nat.log2 m + 1 by omega]; exact h2
theorem y162 {n : Nat} (h1 : 3 ≤ n) (h2 : n ≤ 258) {o : List Nat} : 257 ≤ (lenS n).1 ∧ (lenS n).1 ≤ 285 ∧ (lenS n).2.1 < 2 ^ (lenS n).2.2 ∧ (lenS n).2.2 ≤ 5 ∧ Tells (lenP (lenS n).1) ⟨(lenS n).2.1, (lenS n).2.2⟩ n o o := by
 unfold lenS
 by_cases h : n = 258
 ·subst h; rw [if_pos rfl]; exact ⟨by decide, by decide, by decide, by decide, Tells.ret _ _⟩
 rw [if_neg h]
 by_cases hs : n < 11
 ·rw [if_pos hs]
  refine ⟨by simp only; omega, by simp only; omega, by simp, by simp, ?_⟩
  unfold lenP; simp only
  rw [if_neg (by omega), if_neg (by omega), Nat.add_sub_cancel]
  exact Tells.ret _ _
 rw [if_neg hs]
 obtain ⟨q, r, e1, e2, e3, e4, e5, e6⟩ := top_bits (m := n - 3) (j := 2) (by omega)
 have hk : Nat.log2 (n - 3) ≤ 7 := by
  have : Nat.log2 (n - 3) < 8 := (Nat.log2_lt (by omega)).2 (by omega)
  omega
 have hk3 : 3 ≤ Nat.log2 (n - 3) := (Nat.le_log2 (by omega)).2 (by omega)
 generalize hkk : Nat.log2 (n - 3) - 2 = k at *
 simp only
 rw [e5, e6]
 refine ⟨by omega, ?_, e2, by omega, ?_⟩
 ·have hk5 : k ≤ 5 := by omega
  omega
 ·have hs : 261 + 4 * k + q - 4 = 261 + (4 * k + (q - 4)) := by omega
  have hne : 261 + 4 * k + q - 4 ≠ 285 := by omega
  unfold lenP
  rw [if_neg hne, if_pos (by omega)]
  have d1 : (261 + 4 * k + q - 4 - 261) / 4 = k := by omega
  have d2 : (261 + 4 * k + q - 4 - 261) % 4 = q - 4 := by omega
  rw [d1, d2]
  refine Tells.take' e2 ?_
  rw [show 4 + (q - 4) = q by omega, show 3 + q * 2 ^ k + r = n by omega]
  exact Tells.ret _ _
theorem y153 {d : Nat} (h1 : 1 ≤ d) (h2 : d ≤ 32768) {o : List Nat} : (distS d).1 ≤ 29 ∧ (distS d).2.1 < 2 ^ (distS d).2.2 ∧ (distS d).2.2 ≤ 13 ∧ Tells (distP (distS d).1) ⟨(distS d).2.1, (distS d).2.2⟩ d o o := by
 unfold distS
 by_cases h : d - 1 < 4
 ·rw [if_pos h]
  refine ⟨by simp only; omega, by simp, by simp, ?_⟩
  unfold distP; simp only
  rw [if_neg (by omega), show d - 1 + 1 = d by omega]
  exact Tells.ret _ _
 rw [if_neg h]
 obtain ⟨q, r, e1, e2, e3, e4, e5, e6⟩ := top_bits (m := d - 1) (j := 1) (by omega)
 have hk : Nat.log2 (d - 1) < 15 := (Nat.log2_lt (by omega)).2 (by omega)
 have hk3 : 2 ≤ Nat.log2 (d - 1) := (Nat.le_log2 (by omega)).2 (by omega)
 generalize hkk : Nat.log2 (d - 1) - 1 = k at *
 simp only
 rw [e5, e6]
 refine ⟨by omega, e2, by omega, ?_⟩
 unfold distP
 rw [if_pos (by omega)]
 have d1 : (2 + 2 * k + q - 2) / 2 - 1 = k := by omega
 have d2 : (2 + 2 * k + q - 2) % 2 = q - 2 := by omega
 rw [d1, d2]
 refine Tells.take' e2 ?_
 rw [show 2 + (q - 2) = q by omega, show 1 + q * 2 ^ k + r = d by omega]
 exact Tells.ret _ _
end Go.HW.Inf

set_option autoImplicit false
namespace Go.HW.Sym
open Go.Sort
variable {α : Type} [Inhabited α] {lt : α → α → Bool}
def ix (a m b k : Nat) : Nat := if k < a ∨ b ≤ k then k else if k < a + (b - m) then k + (m - a) else k - (b - m)
def Rot (a m b : Nat) (d d' : Array α) : Prop := PermIn a b d d' ∧ ∀ k, d'[k]! = d[ix a m b k]!
theorem y163 (a m b k : Nat) : ((k < a ∨ b ≤ k) ∧ ix a m b k = k) ∨ (a ≤ k ∧ k < b ∧ k < a + (b - m) ∧ ix a m b k = k + (m - a)) ∨ (a ≤ k ∧ k < b ∧ a + (b - m) ≤ k ∧ ix a m b k = k - (b - m)) := by
 unfold ix; repeat' split
 all_goals omega
theorem ix_none {a m b : Nat} (h : m ≤ a ∨ b ≤ m) (h1 : a ≤ m) (h2 : m ≤ b) (k : Nat) : ix a m b k = k := by
 unfold ix; split
 ·rfl
 ·split <;> omega
theorem Rot.none {a m b : Nat} (d : Array α) (h : m ≤ a ∨ b ≤ m) (h1 : a ≤ m) (h2 : m ≤ b) : Rot a m b d d :=
 ⟨permIn_refl _ _ _, fun k => by rw [ix_none h h1 h2]⟩
def sx (a b c k : Nat) : Nat := if a ≤ k ∧ k < a + c then k - a + b else if b ≤ k ∧ k < b + c then k - b + a else k
theorem sx_cases (a b c k : Nat) : (a ≤ k ∧ k < a + c ∧ sx a b c k = k - a + b) ∨ (¬ (a ≤ k ∧ k < a + c) ∧ b ≤ k ∧ k < b + c ∧ sx a b c k = k - b + a) ∨ (¬ (a ≤ k ∧ k < a + c) ∧ ¬ (b ≤ k ∧ k < b + c) ∧ sx a b c k = k) := by
 unfold sx; repeat' split
 all_goals omega
def Swr (a b c : Nat) (d d' : Array α) : Prop := d'.size = d.size ∧ (∀ lo hi, lo ≤ a → b + c ≤ hi → hi ≤ d.size → PermIn lo hi d d') ∧ ∀ k, d'[k]! = d[sx a b c k]!
theorem Swr.zero (a b : Nat) (d : Array α) : Swr a b 0 d d :=
 ⟨rfl, fun _ _ _ _ _ => permIn_refl _ _ _, fun k => by congr 1; unfold sx; rw [if_neg (by omega), if_neg (by omega)]⟩
theorem Swr.succ {a b c : Nat} {d d' : Array α} (h : Swr a b c d d') (hab : a + c < b) (hb : b + c < d.size) : Swr a b (c + 1) d (swp d' (a + c) (b + c)) := by
 obtain ⟨h1, h2, h3⟩ := h
 refine ⟨by rw [size_swp, h1], fun lo hi l1 l2 l3 => ?_, fun k => ?_⟩
 ·exact permIn_trans _ _ _ _ _ (h2 lo hi l1 (by omega) l3) (swp_permIn _ _ _ _ _ (by omega) (by omega) (by omega) (by omega) (by omega))
 ·by_cases e1 : k = a + c
  ·subst e1
   rw [swp_left _ _ _ (by omega) (by omega), h3]; congr 1
   unfold sx; rw [if_neg (by omega), if_neg (by omega), if_pos (by omega)]; omega
  ·by_cases e2 : k = b + c
   ·subst e2
    rw [swp_right _ _ _ (by omega), h3]; congr 1
    unfold sx; rw [if_neg (by omega), if_neg (by omega), if_neg (by omega), if_pos (by omega)]; omega
   ·rw [swp_other _ _ _ _ e1 e2, h3]; congr 1
    unfold sx
    repeat' split
    all_goals omega
def Todo (a m b i j : Nat) (d0 d : Array α) : Prop := PermIn a b d0 d ∧ ∀ d' : Array α, d'.size = d.size → (∀ k, d'[k]! = d[ix (m - i) m (m + j) k]!) → ∀ k, d'[k]! = d0[ix a m b k]!
theorem Todo.start {a m b : Nat} (d : Array α) (h1 : a ≤ m) (h2 : m ≤ b) : Todo a m b (m - a) (b - m) d d :=
 ⟨permIn_refl _ _ _, fun d' _ h k => by rw [h, show m - (m - a) = a by omega, show m + (b - m) = b by omega]⟩
theorem Todo.left {a m b i j : Nat} {d0 d d' : Array α} (h : Todo a m b i j d0 d) (hi : i ≤ m - a) (hj : j ≤ b - m) (h1 : a ≤ m) (h2 : m ≤ b) (hb : b ≤ d0.size) (hij : j < i) (hs : Swr (m - i) m j d d') : Todo a m b (i - j) j d0 d' := by
 obtain ⟨p, h⟩ := h
 obtain ⟨s1, s2, s3⟩ := hs
 refine ⟨permIn_trans _ _ _ _ _ p (s2 a b (by omega) (by omega) (by rw [p.1]; exact hb)), fun d2 hd hk => h d2 (by omega) fun k => ?_⟩
 rw [hk, s3]; congr 1
 have x1 := y163 (m - (i - j)) m (m + j) k
 have x2 := sx_cases (m - i) m j (ix (m - (i - j)) m (m + j) k)
 have x3 := y163 (m - i) m (m + j) k
 generalize ix (m - (i - j)) m (m + j) k = u at *
 generalize sx (m - i) m j u = v at *
 generalize ix (m - i) m (m + j) k = w at *
 rcases x1 with x1 | x1 | x1 <;> rcases x2 with x2 | x2 | x2 <;> rcases x3 with x3 | x3 | x3 <;> omega
theorem Todo.right {a m b i j : Nat} {d0 d d' : Array α} (h : Todo a m b i j d0 d) (hi : i ≤ m - a) (hj : j ≤ b - m) (h1 : a ≤ m) (h2 : m ≤ b) (hb : b ≤ d0.size) (hij : i < j) (hs : Swr (m - i) (m + j - i) i d d') : Todo a m b i (j - i) d0 d' := by
 obtain ⟨p, h⟩ := h
 obtain ⟨s1, s2, s3⟩ := hs
 refine ⟨permIn_trans _ _ _ _ _ p (s2 a b (by omega) (by omega) (by rw [p.1]; exact hb)), fun d2 hd hk => h d2 (by omega) fun k => ?_⟩
 rw [hk, s3]; congr 1
 have x1 := y163 (m - i) m (m + (j - i)) k
 have x2 := sx_cases (m - i) (m + j - i) i (ix (m - i) m (m + (j - i)) k)
 have x3 := y163 (m - i) m (m + j) k
 generalize ix (m - i) m (m + (j - i)) k = u at *
 generalize sx (m - i) (m + j - i) i u = v at *
 generalize ix (m - i) m (m + j) k = w at *
 rcases x1 with x1 | x1 | x1 <;> rcases x2 with x2 | x2 | x2 <;> rcases x3 with x3 | x3 | x3 <;> omega
theorem Todo.done {a m b i : Nat} {d0 d d' : Array α} (h : Todo a m b i i d0 d) (hi : i ≤ m - a) (hj : i ≤ b - m) (h1 : a ≤ m) (h2 : m ≤ b) (hb : b ≤ d0.size) (hs : Swr (m - i) m i d d') : Rot a m b d0 d' := by
 obtain ⟨p, h⟩ := h
 obtain ⟨s1, s2, s3⟩ := hs
 refine ⟨permIn_trans _ _ _ _ _ p (s2 a b (by omega) (by omega) (by rw [p.1]; exact hb)), h d' s1 fun k => ?_⟩
 rw [s3]; congr 1
 have x2 := sx_cases (m - i) m i k
 have x3 := y163 (m - i) m (m + i) k
 generalize sx (m - i) m i k = v at *
 generalize ix (m - i) m (m + i) k = w at *
 rcases x2 with x2 | x2 | x2 <;> rcases x3 with x3 | x3 | x3 <;> omega
theorem Rot.up {a k : Nat} {d0 d : Array α} (h : Rot a (a + 1) (k + 1) d0 d) (hk : a ≤ k) (hb : k + 1 < d0.size) : Rot a (a + 1) (k + 2) d0 (swp d k (k + 1)) := by
 obtain ⟨p, h⟩ := h
 refine ⟨permIn_trans _ _ _ _ _ (permIn_mono _ _ _ _ _ _ (Nat.le_refl _) (by omega) (by omega) p) (swp_permIn _ _ _ _ _ hk (by omega) (by omega) (by omega) (by rw [p.1]; omega)), fun i => ?_⟩
 have hs := p.1
 by_cases e1 : i = k
 ·subst e1
  rw [swp_left _ _ _ (by omega) (by omega), h]; congr 1
  unfold ix; rw [if_pos (by omega), if_neg (by omega), if_pos (by omega)]; omega
 ·by_cases e2 : i = k + 1
  ·subst e2
   rw [swp_right _ _ _ (by omega), h]; congr 1
   unfold ix; rw [if_neg (by omega), if_neg (by omega), if_neg (by omega), if_neg (by omega)]; omega
  ·rw [swp_other _ _ _ _ e1 e2, h]; congr 1
   have x1 := y163 a (a + 1) (k + 1) i
   have x2 := y163 a (a + 1) (k + 2) i
   omega
theorem Rot.down {m k : Nat} {d0 d : Array α} (h : Rot (k + 1) m (m + 1) d0 d) (hk : k + 1 ≤ m) (hb : m < d0.size) : Rot k m (m + 1) d0 (swp d (k + 1) k) := by
 obtain ⟨p, h⟩ := h
 refine ⟨permIn_trans _ _ _ _ _ (permIn_mono _ _ _ _ _ _ (by omega) (Nat.le_refl _) (by omega) p) (swp_permIn _ _ _ _ _ (by omega) (by omega) (by omega) (by omega) (by rw [p.1]; omega)), fun i => ?_⟩
 have hs := p.1
 by_cases e1 : i = k + 1
 ·subst e1
  rw [swp_left _ _ _ (by omega) (by omega), h]; congr 1
  unfold ix; rw [if_pos (by omega), if_neg (by omega), if_neg (by omega)]; omega
 ·by_cases e2 : i = k
  ·subst e2
   rw [swp_right _ _ _ (by omega), h]; congr 1
   unfold ix; rw [if_neg (by omega), if_pos (by omega), if_neg (by omega), if_pos (by omega)]; omega
  ·rw [swp_other _ _ _ _ e1 e2, h]; congr 1
   have x1 := y163 (k + 1) m (m + 1) i
   have x2 := y163 k m (m + 1) i
   omega
theorem le_trans (hS : SWO lt) {x y z : α} (h1 : lt y x = false) (h2 : lt z y = false) : lt z x = false := hS.ntrans _ _ _ h2 h1
theorem lt_le (hS : SWO lt) {x y : α} (h : lt x y = true) : lt y x = false := by
 rcases e : lt y x with _ | _
 ·rfl
 ·have := hS.trans _ _ _ h e
  rw [hS.irrefl] at this; cases this
theorem sorted_join (hS : SWO lt) {a m b : Nat} {d : Array α} (h1 : SortedIn lt a m d) (h2 : SortedIn lt m b d) (h : ∀ i j, a ≤ i → i < m → m ≤ j → j < b → lt d[j]! d[i]! = false) : SortedIn lt a b d := by
 intro i j hi hij hj
 rcases Nat.lt_or_ge j m with c | c
 ·exact h1 i j hi hij c
 ·rcases Nat.lt_or_ge i m with c2 | c2
  ·exact h i j hi c2 c hj
  ·exact h2 i j c2 hij hj
theorem ins_left (hS : SWO lt) {a b i : Nat} {d d' : Array α} (h : SortedIn lt (a + 1) b d) (hi : a + 1 ≤ i) (hib : i ≤ b) (h1 : a + 1 < i → lt d[a]! d[i - 1]! = false) (h2 : i < b → lt d[i]! d[a]! = false) (hr : Rot a (a + 1) i d d') : SortedIn lt a b d' := by
 intro p q hp hpq hq
 rw [hr.2 p, hr.2 q]
 have e : ∀ k, a ≤ k → k < b → ix a (a + 1) i k = if i ≤ k then k else if k + 1 < i then k + 1 else a := fun k h3 h4 => by
  unfold ix
  by_cases c : i ≤ k
  ·rw [if_pos (by omega), if_pos c]
  ·rw [if_neg (by omega), if_neg c]
   by_cases c2 : k + 1 < i
   ·rw [if_pos (by omega), if_pos c2]; omega
   ·rw [if_neg (by omega), if_neg c2]; omega
 rw [e p hp (by omega), e q (by omega) hq]
 by_cases cq : i ≤ q
 ·rw [if_pos cq]
  by_cases cp : i ≤ p
  ·rw [if_pos cp]; exact h p q (by omega) hpq hq
  ·rw [if_neg cp]
   by_cases cp2 : p + 1 < i
   ·rw [if_pos cp2]; exact h _ _ (by omega) (by omega) hq
   ·rw [if_neg cp2]
    by_cases e2 : i = q
    ·subst e2; exact h2 hq
    ·exact le_trans hS (h2 (by omega)) (h i q (by omega) (by omega) hq)
 ·rw [if_neg cq, if_neg (show ¬ i ≤ p by omega), if_pos (show p + 1 < i by omega)]
  by_cases cq2 : q + 1 < i
  ·rw [if_pos cq2]; exact h _ _ (by omega) (by omega) (by omega)
  ·rw [if_neg cq2]
   by_cases e2 : p + 1 = i - 1
   ·rw [e2]; exact h1 (by omega)
   ·exact le_trans hS (h (p + 1) (i - 1) (by omega) (by omega) (by omega)) (h1 (by omega))
theorem ins_right (hS : SWO lt) {a m i : Nat} {d d' : Array α} (h : SortedIn lt a m d) (hi : a ≤ i) (him : i ≤ m) (h1 : a < i → lt d[m]! d[i - 1]! = false) (h2 : i < m → lt d[i]! d[m]! = false) (hr : Rot i m (m + 1) d d') : SortedIn lt a (m + 1) d' := by
 intro p q hp hpq hq
 rw [hr.2 p, hr.2 q]
 have e : ∀ k, a ≤ k → k < m + 1 → ix i m (m + 1) k = if k < i then k else if k = i then m else k - 1 := fun k h3 h4 => by
  unfold ix
  by_cases c : k < i
  ·rw [if_pos (by omega), if_pos c]
  ·rw [if_neg (by omega), if_neg c]
   by_cases c2 : k = i
   ·rw [if_pos (by omega), if_pos c2]; omega
   ·rw [if_neg (by omega), if_neg c2]; omega
 rw [e p hp (by omega), e q (by omega) hq]
 by_cases cp : p < i
 ·rw [if_pos cp]
  by_cases cq : q < i
  ·rw [if_pos cq]; exact h p q hp hpq (by omega)
  ·rw [if_neg cq]
   by_cases cq2 : q = i
   ·rw [if_pos cq2]
    by_cases e2 : p = i - 1
    ·subst e2; exact h1 (by omega)
    ·exact le_trans hS (h p (i - 1) hp (by omega) (by omega)) (h1 (by omega))
   ·rw [if_neg cq2]; exact h _ _ hp (by omega) (by omega)
 ·rw [if_neg cp, if_neg (show ¬ q < i by omega), if_neg (show ¬ q = i by omega)]
  by_cases cp2 : p = i
  ·rw [if_pos cp2]
   by_cases e2 : q - 1 = i
   ·rw [e2]; exact h2 (by omega)
   ·exact le_trans hS (h2 (by omega)) (h i (q - 1) (by omega) (by omega) (by omega))
  ·rw [if_neg cp2]; exact h _ _ (by omega) (by omega) (by omega)
theorem sym_parts (hS : SWO lt) {a m b s e mid : Nat} {d d' : Array α} (h1 : SortedIn lt a m d) (h2 : SortedIn lt m b d) (has : a ≤ s) (hsm : s ≤ m) (hme : m ≤ e) (heb : e ≤ b) (hmid : mid = s + (e - m))
  (hA : a < s → e < b → lt d[e]! d[s - 1]! = false) (hB : m < e → s < m → lt d[e - 1]! d[s]! = true) (hr : Rot s m e d d') :
  SortedIn lt a s d' ∧ SortedIn lt s mid d' ∧ SortedIn lt mid e d' ∧ SortedIn lt e b d' ∧ ∀ i j, a ≤ i → i < mid → mid ≤ j → j < b → lt d'[j]! d'[i]! = false := by
 have e1 : ∀ k, k < s → d'[k]! = d[k]! := fun k hk => by rw [hr.2 k]; unfold ix; rw [if_pos (by omega)]
 have e2 : ∀ k, s ≤ k → k < mid → d'[k]! = d[k + (m - s)]! := fun k h3 h4 => by rw [hr.2 k]; unfold ix; rw [if_neg (by omega), if_pos (by omega)]
 have e3 : ∀ k, mid ≤ k → k < e → d'[k]! = d[k - (e - m)]! := fun k h3 h4 => by rw [hr.2 k]; unfold ix; rw [if_neg (by omega), if_neg (by omega)]
 have e4 : ∀ k, e ≤ k → d'[k]! = d[k]! := fun k hk => by rw [hr.2 k]; unfold ix; rw [if_pos (by omega)]
 refine ⟨fun i j hi hij hj => ?_, fun i j hi hij hj => ?_, fun i j hi hij hj => ?_, fun i j hi hij hj => ?_, fun i j hi him hj hjb => ?_⟩
 ·rw [e1 i (by omega), e1 j hj]; exact h1 i j hi hij (by omega)
 ·rw [e2 i hi (by omega), e2 j (by omega) hj]; exact h2 _ _ (by omega) (by omega) (by omega)
 ·rw [e3 i hi (by omega), e3 j (by omega) hj]; exact h1 _ _ (by omega) (by omega) (by omega)
 ·rw [e4 i hi, e4 j (by omega)]; exact h2 i j (by omega) hij hj
 ·by_cases ci : i < s
  ·rw [e1 i ci]
   by_cases cj : j < e
   ·rw [e3 j hj cj]; exact h1 i _ hi (by omega) (by omega)
   ·rw [e4 j (by omega)]
    have x1 : lt d[s - 1]! d[i]! = false := by
     by_cases c : i = s - 1
     ·rw [c]; exact hS.irrefl _
     ·exact h1 i (s - 1) hi (by omega) (by omega)
    have x2 : lt d[j]! d[e]! = false := by
     by_cases c : j = e
     ·rw [c]; exact hS.irrefl _
     ·exact h2 e j (by omega) (by omega) hjb
    exact le_trans hS x1 (le_trans hS (hA (by omega) (by omega)) x2)
  ·rw [e2 i (by omega) him]
   by_cases cj : j < e
   ·rw [e3 j hj cj]
    have x0 := lt_le hS (hB (by omega) (by omega))
    have x1 : lt d[e - 1]! d[i + (m - s)]! = false := by
     by_cases c : i + (m - s) = e - 1
     ·rw [c]; exact hS.irrefl _
     ·exact h2 _ (e - 1) (by omega) (by omega) (by omega)
    have x2 : lt d[j - (e - m)]! d[s]! = false := by
     by_cases c : j - (e - m) = s
     ·rw [c]; exact hS.irrefl _
     ·exact h1 s _ has (by omega) (by omega)
    exact le_trans hS x1 (le_trans hS x0 x2)
   ·rw [e4 j (by omega)]; exact h2 _ j (by omega) (by omega) hjb
theorem y134 {a b lo hi : Nat} {d d' : Array α} (h : SortedIn lt a b d) (hp : PermIn lo hi d d') (hd : b ≤ lo ∨ hi ≤ a) : SortedIn lt a b d' := by
 intro i j h1 h2 h3
 rw [hp.2.1 i (by omega), hp.2.1 j (by omega)]; exact h i j h1 h2 h3
theorem halves (hS : SWO lt) {a m b : Nat} {d d1 d2 : Array α} (hb : b ≤ d.size) (ham : a ≤ m) (hmb : m ≤ b) (h : ∀ i j, a ≤ i → i < m → m ≤ j → j < b → lt d[j]! d[i]! = false) (p1 : PermIn a m d d1) (s1 : SortedIn lt a m d1) (p2 : PermIn m b d1 d2) (s2 : SortedIn lt m b d2) :
  PermIn a b d d2 ∧ SortedIn lt a b d2 := by
 refine ⟨permIn_trans _ _ _ _ _ (permIn_mono _ _ _ _ _ _ (Nat.le_refl _) hmb hb p1) (permIn_mono _ _ _ _ _ _ ham (Nat.le_refl _) (by rw [p1.1]; exact hb) p2), sorted_join hS (y134 s1 p2 (by omega)) s2 fun i j hi him hj hjb => ?_⟩
 have a1 : ∀ i, a ≤ i → i < m → ∀ j, m ≤ j → j < b → lt d[j]! d1[i]! = false := permIn_all _ _ _ _ (fun x => ∀ j, m ≤ j → j < b → lt d[j]! x = false) (by omega) p1 fun i h1 h2 j h3 h4 => h i j h1 h2 h3 h4
 have a2 : ∀ j, m ≤ j → j < b → ∀ i, a ≤ i → i < m → lt d2[j]! d1[i]! = false := permIn_all _ _ _ _ (fun x => ∀ i, a ≤ i → i < m → lt x d1[i]! = false) (by rw [p1.1]; exact hb) p2 fun j h3 h4 i h1 h2 => by
  rw [p1.2.1 j (by omega)]; exact a1 i h1 h2 j h3 h4
 rw [p2.2.1 i (by omega)]
 exact a2 j hj hjb i hi him
theorem sorted_small {a b : Nat} {d : Array α} (h : b ≤ a + 1) : SortedIn lt a b d := fun i j h1 h2 h3 => by omega
end Go.HW.Sym

set_option autoImplicit false
namespace Go.HW.PM
open Go.HW.Can
structure Lim (counts : List Nat) (most : Nat) (l : List Nat) : Prop where
 len : l.length = counts.length
 le : ∀ x ∈ l, x ≤ most
 zero : ∀ i, l.getD i 0 = 0 ↔ counts.getD i 0 = 0
 chk : (∃ i, counts.getD i 0 ≠ 0) → chk l = 0
def ids (counts : List Nat) : List Nat := (List.range counts.length).filter fun i => counts.getD i 0 != 0
theorem mem_ids {counts : List Nat} {i : Nat} : i ∈ ids counts ↔ counts.getD i 0 ≠ 0 := by
 unfold ids
 rw [List.mem_filter, List.mem_range]
 constructor
 ·intro h; simpa using h.2
 ·intro h
  refine ⟨?_, by simpa using h⟩
  rcases Nat.lt_or_ge i counts.length with h1 | h1
  ·exact h1
  ·exact absurd (by rw [List.getD_eq_getElem?_getD, List.getElem?_eq_none h1]; rfl) h
theorem kr_map (f : Nat → Nat) : ∀ L : List Nat, kr (L.map f) = ((L.filter fun i => f i != 0).map fun i => 2 ^ (15 - f i)).sum
 | [] => rfl
 | i :: L => by
  simp only [List.map_cons, kr, kr_map f L]
  by_cases h : f i = 0
  ·rw [if_pos h, List.filter_cons_of_neg (by simp [h])]; omega
  ·rw [if_neg h, List.filter_cons_of_pos (by simp [h])]; simp
theorem used_map (f : Nat → Nat) : ∀ L : List Nat, used (L.map f) = (L.filter fun i => f i != 0).length
 | [] => rfl
 | i :: L => by
  simp only [List.map_cons, used, used_map f L]
  by_cases h : f i = 0
  ·rw [if_pos h, List.filter_cons_of_neg (by simp [h])]; omega
  ·rw [if_neg h, List.filter_cons_of_pos (by simp [h])]; simp; omega
theorem getD_map_range (f : Nat → Nat) (m i : Nat) : ((List.range m).map f).getD i 0 = if i < m then f i else 0 := by
 rw [List.getD_eq_getElem?_getD]
 by_cases h : i < m
 ·rw [if_pos h]; simp [h]
 ·rw [if_neg h]; simp [Nat.le_of_not_lt h]
theorem lim_of {counts : List Nat} {most : Nat} {f : Nat → Nat} (h15 : most ≤ 15) (hle : ∀ i, f i ≤ most) (hz : ∀ i, f i = 0 ↔ counts.getD i 0 = 0)
  (hk : (ids counts).length = 1 ∧ (∀ i ∈ ids counts, f i = 1) ∨ (ids counts ≠ [] → ((ids counts).map fun i => 2 ^ (15 - f i)).sum = 2 ^ 15)) : Lim counts most ((List.range counts.length).map f) := by
 have hf : (List.range counts.length).filter (fun i => f i != 0) = ids counts := by
  unfold ids
  refine List.filter_congr fun i _ => ?_
  rw [Bool.eq_iff_iff]; simp [hz i]
 refine ⟨by simp, fun x hx => ?_, fun i => ?_, fun ⟨i, hi⟩ => ?_⟩
 ·obtain ⟨i, _, rfl⟩ := List.mem_map.1 hx; exact hle i
 ·rw [getD_map_range]
  by_cases h : i < counts.length
  ·rw [if_pos h]; exact hz i
  ·rw [if_neg h, List.getD_eq_getElem?_getD, List.getElem?_eq_none (Nat.le_of_not_lt h)]; simp
 ·have hne : ids counts ≠ [] := fun e => by have := mem_ids.2 hi; rw [e] at this; cases this
  unfold Can.chk
  rw [kr_map, used_map, hf]
  rcases hk with ⟨h1, h2⟩ | h
  ·obtain ⟨k, e⟩ : ∃ k, ids counts = [k] := by
    rcases e : ids counts with _ | ⟨a, l⟩
    ·exact absurd e hne
    ·rw [e] at h1; simp at h1; subst h1; exact ⟨a, rfl⟩
   rw [e] at h2 ⊢
   simp [h2 k (by simp)]
  ·rw [h hne]; simp
theorem lim_whole {counts : List Nat} {most : Nat} {lv l : List Tr} {js : List Nat} (hL : Lvs lv js) (hp : js.Perm (ids counts)) (hl : Lv lv most l) (h2 : 2 ≤ (ids counts).length) (hm : (ids counts).length ≤ 2 ^ most) (h15 : most ≤ 15) :
  2 * (ids counts).length - 2 ≤ l.length ∧ Lim counts most ((List.range counts.length).map fun i => cn (l.take (2 * (ids counts).length - 2)) i) := by
 rw [← hp.length_eq] at h2 hm ⊢
 obtain ⟨w1, w2, w3, w4⟩ := whole hL hl h2 hm
 refine ⟨w1, lim_of h15 w2 (fun i => ?_) (Or.inr fun _ => ?_)⟩
 ·constructor
  ·intro h0
   rcases Nat.eq_zero_or_pos (counts.getD i 0) with h | h
   ·exact h
   ·have := w3 i (hp.mem_iff.2 (mem_ids.2 (by omega))); omega
  ·intro h0
   rcases Nat.eq_zero_or_pos (cn (l.take (2 * js.length - 2)) i) with h | h
   ·exact h
   ·exfalso
    unfold cn at h
    obtain ⟨t, ht, hi⟩ := List.mem_flatMap.1 (List.count_pos_iff.1 h)
    obtain ⟨w, hw, _⟩ := (hl.pos hL t (List.mem_of_mem_take ht)).2 i hi
    have : i ∈ js := by rw [← hL.sym]; exact List.mem_flatMap.2 ⟨_, hw, by simp [sy]⟩
    exact mem_ids.1 (hp.mem_iff.1 this) h0
 ·rw [← w4 15 h15]
  exact (hp.symm.map _).sum_nat
theorem lim_none {counts : List Nat} {most : Nat} (h15 : most ≤ 15) (h : ids counts = []) : Lim counts most (List.replicate counts.length 0) := by
 have : List.replicate counts.length 0 = (List.range counts.length).map fun _ => 0 := by rw [List.map_const', List.length_range]
 rw [this]
 refine lim_of h15 (fun _ => Nat.zero_le _) (fun i => ?_) (Or.inr fun hn => absurd h hn)
 refine ⟨fun _ => ?_, fun _ => rfl⟩
 rcases Nat.eq_zero_or_pos (counts.getD i 0) with h1 | h1
 ·exact h1
 ·have := mem_ids.2 (show counts.getD i 0 ≠ 0 by omega); rw [h] at this; cases this
theorem lim_one {counts : List Nat} {most k : Nat} (h1 : 1 ≤ most) (h15 : most ≤ 15) (h : ids counts = [k]) : Lim counts most ((List.replicate counts.length 0).set k 1) := by
 have hk : k < counts.length := by
  have : k ∈ ids counts := by rw [h]; simp
  unfold ids at this; exact List.mem_range.1 (List.mem_filter.1 this).1
 have : (List.replicate counts.length 0).set k 1 = (List.range counts.length).map fun i => if i = k then 1 else 0 := by
  refine List.ext_getElem (by simp) fun i h1 h2 => ?_
  simp only [List.getElem_set, List.getElem_map, List.getElem_range, List.getElem_replicate]
  by_cases e : k = i
  ·subst e; simp
  ·rw [if_neg e, if_neg (Ne.symm e)]
 rw [this]
 refine lim_of h15 (fun i => by split <;> omega) (fun i => ?_) (Or.inl ⟨by rw [h]; rfl, fun i hi => by rw [h] at hi; simp at hi; rw [if_pos hi]⟩)
 have hm := mem_ids (counts := counts) (i := i)
 rw [h] at hm
 simp only [List.mem_cons, List.not_mem_nil, or_false] at hm
 by_cases e : i = k
 ·rw [if_pos e]; have := hm.1 e; omega
 ·rw [if_neg e]
  refine ⟨fun _ => ?_, fun _ => rfl⟩
  rcases Nat.eq_zero_or_pos (counts.getD i 0) with h3 | h3
  ·exact h3
  ·exact absurd (hm.2 (by omega)) e
end Go.HW.PM

set_option autoImplicit false
namespace Go.HW.Inf
open Go.HW Go.HW.Pz Go.HW.Can
def infl (b : List Nat) (lim : Nat) : Rz Unit := run (val b) (8 * b.length) lim inflP 0 []
def Rz.end' : Rz Unit → Int | .ok _ _ _ => 0 | .bad e _ => e
theorem val_mod {b : List Nat} (hb : ∀ x ∈ b, x < 256) (k : Nat) (hk : k ≤ b.length) : val (b.take k) = val b % 2 ^ (8 * k) := by
 have e : b.take k ++ b.drop k = b := List.take_append_drop k b
 have hl : (b.take k).length = k := by simp; omega
 conv => rhs; rw [← e, val_app, hl, pow256]
 rw [Nat.add_mul_mod_self_left, Nat.mod_eq_of_lt]
 have := val_lt (l := b.take k) fun x hx => hb x (List.mem_of_mem_take hx)
 rwa [hl, pow256] at this
theorem infl_part {b : List Nat} (hb : ∀ x ∈ b, x < 256) {k lim : Nat} (hk : k ≤ b.length) :
  (∃ o, infl (b.take k) lim = .bad 55 o ∧ o <+: Rz.out (infl b lim)) ∨ infl b lim = infl (b.take k) lim := by
 have hl : (b.take k).length = k := by simp; omega
 have := run_more (V := val (b.take k)) (L := 8 * (b.take k).length) (V2 := val b) (L2 := 8 * b.length) (lim := lim) (by rw [hl]; exact val_mod hb k hk) (by rw [hl]; omega) (Nat.dvd_mul_right 8 _) inflP 0 [] (by omega)
 exact this
theorem infl_len (b : List Nat) (lim : Nat) : (Rz.out (infl b lim)).length ≤ lim := (run_out inflP 0 []).2 (by simp)
theorem infl_gone {b : List Nat} {lim p : Nat} {o : List Nat} (h : infl b lim = .ok () p o) : p ≤ 8 * b.length ∧ (p + 7) / 8 ≤ b.length := by
 have := run_at (Nat.dvd_mul_right 8 _) inflP h (by omega)
 omega
theorem infl_lim {b : List Nat} {lim p l2 : Nat} {o : List Nat} (h : infl b lim = .ok () p o) : if o.length ≤ l2 then infl b l2 = .ok () p o else ∃ o2, infl b l2 = .bad 56 o2 := run_lim inflP h (by simp)
theorem lay_run {V L lim : Nat} : ∀ (d : List Nat) (p : Nat) (o : List Nat), (∀ x ∈ d, x < 256) → V / 2 ^ p % 256 ^ d.length = val d → p + 8 * d.length ≤ L → o.length + d.length ≤ lim → run V L lim (layP d.length) p o = .ok () (p + 8 * d.length) (o ++ d)
 | [], p, o, _, _, _, _ => by simp [layP, run]
 | c :: d, p, o, hd, hV, hL, hl => by
  simp only [List.length_cons, layP, run] at *
  have hc : c < 256 := hd c (by simp)
  have e1 : V / 2 ^ p % 2 ^ 8 = c := by
   have : V / 2 ^ p % 256 ^ (d.length + 1) % 256 = V / 2 ^ p % 256 := Nat.mod_mod_of_dvd _ ⟨256 ^ d.length, by rw [Nat.pow_succ, Nat.mul_comm]⟩
   rw [show (2 : Nat) ^ 8 = 256 from rfl, ← this, hV, val]
   omega
  have e2 : V / 2 ^ (p + 8) % 256 ^ d.length = val d := by
   rw [Nat.pow_add, ← Nat.div_div_eq_div_mul]
   have : V / 2 ^ p % 256 ^ (d.length + 1) / 256 = V / 2 ^ p / 256 % 256 ^ d.length := by rw [Nat.pow_succ, Nat.mul_comm, Nat.mod_mul_right_div_self]
   rw [show (2 : Nat) ^ 8 = 256 from rfl, ← this, hV, val]
   omega
  rw [if_pos (by omega), e1, if_pos (by omega), lay_run d (p + 8) (o ++ [c]) (fun x hx => hd x (by simp [hx])) e2 (by omega) (by simp; omega)]
  simp only [List.append_assoc, List.singleton_append, Rz.ok.injEq, and_true, true_and]
  omega
def storB (l : Nat) (d : List Nat) : List Nat := [l, d.length % 256, d.length / 256, (65535 - d.length) % 256, (65535 - d.length) / 256] ++ d
theorem y111 (l : Nat) (d : List Nat) : (storB l d).length = d.length + 5 := by simp [storB]
theorem storB_lt {l : Nat} {d : List Nat} (hl : l < 2) (hd : ∀ x ∈ d, x < 256) (h : d.length ≤ 65535) : ∀ x ∈ storB l d, x < 256 := by
 intro x hx
 simp only [storB, List.mem_append, List.mem_cons, List.not_mem_nil, or_false] at hx
 rcases hx with (rfl | rfl | rfl | rfl | rfl) | hx
 ·omega
 ·omega
 ·omega
 ·omega
 ·omega
 ·exact hd x hx
theorem stor_run {V L lim p : Nat} {l : Nat} {d o : List Nat} (hl : l < 2) (hd : ∀ x ∈ d, x < 256) (h16 : d.length ≤ 16384) (h8 : p % 8 = 0) (hV : V / 2 ^ p % 256 ^ (d.length + 5) = val (storB l d)) (hL : p + 8 * (d.length + 5) ≤ L) (hlim : o.length + d.length ≤ lim) (f : Nat) :
  run V L lim (blocksP FF (f + 1)) p o = if l = 0 then run V L lim (blocksP FF f) (p + 8 * (d.length + 5)) (o ++ d) else .ok () (p + 8 * (d.length + 5)) (o ++ d) := by
 have hval : val (storB l d) = l + 256 * (d.length + 65536 * (65535 - d.length + 65536 * val d)) := by
  simp only [storB, List.cons_append, List.nil_append, val]
  omega
 generalize hM : V / 2 ^ p = M at *
 have hsmall : M % 2 ^ 40 = l + 256 * (d.length + 65536 * (65535 - d.length)) := by
  have : M % 256 ^ (d.length + 5) % 2 ^ 40 = M % 2 ^ 40 := Nat.mod_mod_of_dvd _ ⟨256 ^ d.length, by rw [Nat.pow_add, Nat.mul_comm]⟩
  rw [← this, hV, hval]
  omega
 have e0 : M % 2 ^ 1 = l := by omega
 have e1 : V / 2 ^ (p + 1) % 2 ^ 2 = 0 := by
  rw [Nat.pow_add, ← Nat.div_div_eq_div_mul, hM]; omega
 have e2 : V / 2 ^ (p + 8) % 2 ^ 16 = d.length := by
  rw [Nat.pow_add, ← Nat.div_div_eq_div_mul, hM]; omega
 have e3 : V / 2 ^ (p + 8 + 16) % 2 ^ 16 = 65535 - d.length := by
  rw [show p + 8 + 16 = p + 24 by omega, Nat.pow_add, ← Nat.div_div_eq_div_mul, hM]; omega
 have e4 : V / 2 ^ (p + 8 + 16 + 16) % 256 ^ d.length = val d := by
  rw [show p + 8 + 16 + 16 = p + 40 by omega, Nat.pow_add, ← Nat.div_div_eq_div_mul, hM]
  have : M % 256 ^ (d.length + 5) / 2 ^ 40 = M / 2 ^ 40 % 256 ^ d.length := by rw [Nat.pow_add, Nat.mul_comm, show (256 : Nat) ^ 5 = 2 ^ 40 from rfl, Nat.mod_mul_right_div_self]
  rw [← this, hV, hval]
  omega
 have hbody : run V L lim storedP (p + 1 + 2) o = .ok () (p + 8 * (d.length + 5)) (o ++ d) := by
  unfold storedP
  simp only [run]
  rw [show (p + 1 + 2 + 7) / 8 * 8 = p + 8 by omega, if_pos (by omega), e2, if_pos (by omega), e3, if_neg (by omega), lay_run d _ o hd e4 (by omega) hlim]
  congr 1
  omega
 simp only [blocksP, run]
 rw [if_pos (by omega), hM, e0, if_pos (by omega), e1, run_bind]
 unfold bodyP
 rw [if_pos rfl, hbody]
 simp only
 split
 ·rfl
 ·rfl
def Final (z d : List Nat) : Prop := ∀ (V L lim p f : Nat) (o : List Nat), p % 8 = 0 → V / 2 ^ p % 256 ^ z.length = val z → p + 8 * z.length ≤ L → o.length + d.length ≤ lim →
 ∃ q, run V L lim (blocksP FF (f + 1)) p o = .ok () q (o ++ d) ∧ (q + 7) / 8 = p / 8 + z.length
theorem final_stored {d : List Nat} (hd : ∀ x ∈ d, x < 256) (h16 : d.length ≤ 16384) : Final (storB 1 d) d := by
 intro V L lim p f o h8 hV hL hlim
 rw [y111] at hV hL ⊢
 refine ⟨_, stor_run (l := 1) (by decide) hd h16 h8 hV hL hlim f, by omega⟩
theorem final_tells {kind : Nat} {b : Bz} {d : List Nat} (hk : kind < 4) (hb : b.wf) (h : ∀ o, Tells (bodyP FF kind) b () o (o ++ d)) : Final (dig (Bz.cat ⟨1, 1⟩ (Bz.cat ⟨kind, 2⟩ b)).x (((Bz.cat ⟨1, 1⟩ (Bz.cat ⟨kind, 2⟩ b)).k + 7) / 8)) d := by
 intro V L lim p f o h8 hV hL hlim
 have ht : Tells (blocksP FF (f + 1)) (Bz.cat ⟨1, 1⟩ (Bz.cat ⟨kind, 2⟩ b)) () o (o ++ d) := by
  simp only [blocksP]
  refine Tells.take (by decide) (Tells.take (by omega) ?_)
  have := Tells.bind (f := fun _ => if (1 : Nat) = 0 then blocksP FF f else (.ret () : Pz Unit)) hb (h o) (c := .nil) (r := ()) (o'' := o ++ d) (by rw [if_neg (by decide)]; exact Tells.ret _ _) (Nat.le_refl _)
  rwa [Bz.cat_nil] at this
 have hw : (Bz.cat ⟨1, 1⟩ (Bz.cat ⟨kind, 2⟩ b)).wf := Bz.wf_cat (show 1 < 2 ^ 1 by decide) (Bz.wf_cat (show kind < 2 ^ 2 by omega) hb)
 generalize Bz.cat ⟨1, 1⟩ (Bz.cat ⟨kind, 2⟩ b) = B at *
 rw [y120] at hV hL ⊢
 have hN : B.x < 256 ^ ((B.k + 7) / 8) := by rw [pow256]; exact Nat.lt_of_lt_of_le hw (Nat.pow_le_pow_right (by decide) (by omega))
 rw [val_dig, Nat.mod_eq_of_lt hN] at hV
 refine ⟨p + B.k, ht V L lim p ⟨?_, by omega⟩ (by simpa using hlim), by omega⟩
 have : V / 2 ^ p % 256 ^ ((B.k + 7) / 8) % 2 ^ B.k = V / 2 ^ p % 2 ^ B.k := Nat.mod_mod_of_dvd _ (by rw [pow256]; exact Nat.pow_dvd_pow 2 (by omega))
 rw [← this, hV, Nat.mod_eq_of_lt hw]
def rowB (ds : List (List Nat)) (z : List Nat) : List Nat := ds.flatMap (storB 0) ++ z
theorem row_run {z d : List Nat} (hz : Final z d) {V L lim : Nat} : ∀ (ds : List (List Nat)) (p f : Nat) (o : List Nat), (∀ e ∈ ds, (∀ x ∈ e, x < 256) ∧ e.length ≤ 16384) → ds.length ≤ f → p % 8 = 0 → V / 2 ^ p % 256 ^ (rowB ds z).length = val (rowB ds z) → p + 8 * (rowB ds z).length ≤ L →
  o.length + (ds.flatten.length + d.length) ≤ lim → ∃ q, run V L lim (blocksP FF (f + 1)) p o = .ok () q (o ++ (ds.flatten ++ d)) ∧ (q + 7) / 8 = p / 8 + (rowB ds z).length
 | [], p, f, o, _, _, h8, hV, hL, hl => by
  simp only [rowB, List.flatMap_nil, List.nil_append, List.flatten_nil, List.length_nil, Nat.zero_add] at *
  exact hz V L lim p f o h8 hV hL hl
 | e :: ds, p, 0, o, _, hf, _, _, _, _ => by simp at hf
 | e :: ds, p, f + 1, o, hd, hf, h8, hV, hL, hl => by
  have he := hd e (by simp)
  have hlen : (rowB (e :: ds) z).length = (e.length + 5) + (rowB ds z).length := by simp [rowB, y111]
  have hval : val (rowB (e :: ds) z) = val (storB 0 e) + 256 ^ (e.length + 5) * val (rowB ds z) := by
   simp only [rowB, List.flatMap_cons, List.append_assoc]; rw [val_app, y111]
  rw [hlen] at hV hL ⊢
  rw [hval] at hV
  simp only [List.flatten_cons, List.length_append] at hl
  have hs : val (storB 0 e) < 256 ^ (e.length + 5) := by
   have := val_lt (storB_lt (l := 0) (d := e) (by decide) he.1 (by omega))
   rwa [y111] at this
  have h1 : V / 2 ^ p % 256 ^ (e.length + 5) = val (storB 0 e) := by
   have : V / 2 ^ p % 256 ^ ((e.length + 5) + (rowB ds z).length) % 256 ^ (e.length + 5) = V / 2 ^ p % 256 ^ (e.length + 5) := Nat.mod_mod_of_dvd _ (Nat.pow_dvd_pow 256 (by omega))
   rw [← this, hV, Nat.add_mul_mod_self_left, Nat.mod_eq_of_lt hs]
  have h2 : V / 2 ^ (p + 8 * (e.length + 5)) % 256 ^ (rowB ds z).length = val (rowB ds z) := by
   rw [Nat.pow_add, ← Nat.div_div_eq_div_mul, ← pow256]
   have : V / 2 ^ p % 256 ^ ((e.length + 5) + (rowB ds z).length) / 256 ^ (e.length + 5) = V / 2 ^ p / 256 ^ (e.length + 5) % 256 ^ (rowB ds z).length := by rw [Nat.pow_add, Nat.mod_mul_right_div_self]
   rw [← this, hV, Nat.add_mul_div_left _ _ (Nat.pow_pos (by decide)), Nat.div_eq_of_lt hs, Nat.zero_add]
  rw [stor_run (l := 0) (by decide) he.1 he.2 h8 h1 (by omega) (by omega), if_pos rfl]
  obtain ⟨q, hq1, hq2⟩ := row_run hz (V := V) (L := L) (lim := lim) ds (p + 8 * (e.length + 5)) f (o ++ e) (fun x hx => hd x (by simp [hx])) (by simpa using hf) (by omega) h2 (by have := hL; omega) (by rw [List.length_append]; omega)
  refine ⟨q, ?_, by omega⟩
  rw [hq1]; simp
theorem row_infl {z d : List Nat} (hz : Final z d) {ds : List (List Nat)} (hd : ∀ e ∈ ds, (∀ x ∈ e, x < 256) ∧ e.length ≤ 16384) (hn : ds.length < FF) {lim : Nat} (hl : ds.flatten.length + d.length ≤ lim) (hb : ∀ x ∈ rowB ds z, x < 256) :
  ∃ q, infl (rowB ds z) lim = .ok () q (ds.flatten ++ d) ∧ (q + 7) / 8 = (rowB ds z).length := by
 obtain ⟨f, hf⟩ : ∃ f, FF = f + 1 := ⟨FF - 1, by omega⟩
 obtain ⟨q, h1, h2⟩ := row_run hz (V := val (rowB ds z)) (L := 8 * (rowB ds z).length) (lim := lim) ds 0 f [] hd (by omega) rfl (by simp; exact Nat.mod_eq_of_lt (val_lt hb)) (by omega) (by simpa using hl)
 refine ⟨q, ?_, by omega⟩
 unfold infl inflP
 rw [show blocksP FF FF = blocksP FF (f + 1) by rw [← hf], h1]; simp
theorem final_infl {z d : List Nat} (hz : Final z d) {lim : Nat} (hl : d.length ≤ lim) (hb : ∀ x ∈ z, x < 256) : ∃ q, infl z lim = .ok () q d ∧ (q + 7) / 8 = z.length := by
 have := row_infl hz (ds := []) (by simp) (by unfold FF; decide) (lim := lim) (by simpa using hl) (by simpa [rowB] using hb)
 simpa [rowB] using this
end Go.HW.Inf

/- Texts of the proof, laid together: Heaps taken apart: assertions on parts of a heap, side by side.; Numbers of the model that are no less than nought, as natural numbers.; From the row's reading of arguments, of whatever plain type, to rows of cells in the first heap.; Maps of the model, as lists of pairs without a key twice.; Plain law of bytes as the digits of a number, the lowest first.; Strings and their bytes.; Slices of rows of several cells: made, cut, an element written.; Arrays: an element, a slice of the whole, equality; a literal's bytes.; What a printed text (gen2.py) leans on: short names, places in code as numbers, a text proved against its evaluation.; A frame that is kept over a range over a function: the exact objects.; A range over a map that the round leaves alone.; A part of a slice of rows.; Values of a map that own memory: one is brought to the front, laid back, laid anew, let go.; A range over a map that the round changes at keys that were told.; Some of the first n parts, in a new order; the others of them are let go.; Functions that defer, and functions that recover: contracts over heaps, and their doors.; append that must grow: the elder row stays as it is.; The order of strings (plain).; Parts of strings; contracts of the library's as contracts over heaps.; Maps whose keys are pointers; maps cloned; the end of a slice cleared; a slice without room. -/
import Derived.Test.YtglcanljknjcfaaGreatDoorP1
import Derived.SizedLaws
import Derived.DefersIn
import Derived.RecoverIn
import Derived.Sort.Grow
import Derived.Deep.Draws
import Derived.Lib.ConvBytes
set_option linter.unusedVariables false
set_option linter.unusedSimpArgs false
set_option linter.unusedSectionVars false
namespace Go.HW
open Go

abbrev PM := Nat → Option Obj
abbrev Assn := PM → Prop
def Dj (m m' : PM) : Prop := ∀ b, m b = none ∨ m' b = none
def Sub (m m' : PM) : Prop := ∀ b o, m b = some o → m' b = some o
theorem Sub.refl (m : PM) : Sub m m := fun _ _ h => h
theorem Sub.trans {a b c : PM} (h : Sub a b) (k : Sub b c) : Sub a c := fun x o e => k x o (h x o e)
theorem Dj.symm {a b : PM} (h : Dj a b) : Dj b a := fun x => (h x).symm
theorem Dj.sub {a b c : PM} (h : Dj a b) (k : Sub c b) : Dj a c := fun x => (h x).imp id fun e => by
 cases hc : c x with
 | none => rfl
 | some o => rw [k x o hc] at e; cases e
def Un (a b : PM) : PM := fun x => match a x with | some o => some o | none => b x
theorem Un.left (a b : PM) : Sub a (Un a b) := fun x o e => by simp [Un, e]
theorem Un.right {a b : PM} (h : Dj a b) : Sub b (Un a b) := fun x o e => by
 rcases h x with k | k
 ·simp [Un, k, e]
 ·rw [e] at k; cases k
theorem Un.dj {a b c : PM} (h : Dj a c) (k : Dj b c) : Dj (Un a b) c := fun x => by
 rcases h x with e | e
 ·rcases k x with f | f
  ·left; simp [Un, e, f]
  ·exact .inr f
 ·exact .inr e
theorem Un.sub {a b c : PM} (h : Sub a c) (k : Sub b c) : Sub (Un a b) c := fun x o e => by
 unfold Un at e
 split at e
 ·rename_i o' h'; cases e; exact h x _ h'
 ·exact k x o e

def Sp : List Assn → Assn
 | [], _ => True
 | A :: L, m => ∃ m1 m2, A m1 ∧ Sp L m2 ∧ Dj m1 m2 ∧ Sub m1 m ∧ Sub m2 m
theorem Sp.sub {L : List Assn} {m m' : PM} (h : Sp L m) (s : Sub m m') : Sp L m' := by
 cases L with
 | nil => trivial
 | cons A L => obtain ⟨m1, m2, a, b, c, d, e⟩ := h; exact ⟨m1, m2, a, b, c, d.trans s, e.trans s⟩
theorem Sp.swap {A B : Assn} {L : List Assn} {m : PM} (h : Sp (A :: B :: L) m) : Sp (B :: A :: L) m := by
 obtain ⟨m1, m2, a, ⟨m3, m4, b, l, d34, s3, s4⟩, d12, s1, s2⟩ := h
 have d13 : Dj m3 m1 := (d12.sub s3).symm
 have d14 : Dj m1 m4 := d12.sub s4
 exact ⟨m3, Un m1 m4, b, ⟨m1, m4, a, l, d14, Un.left _ _, Un.right d14⟩, (Un.dj d13.symm d34.symm).symm, s3.trans s2, Un.sub s1 (s4.trans s2)⟩
theorem Sp.cons {A B : Assn} {L M : List Assn} {m : PM} (ha : ∀ m, A m → B m) (hl : ∀ m, Sp L m → Sp M m) (h : Sp (A :: L) m) : Sp (B :: M) m := by
 obtain ⟨m1, m2, a, l, d, s1, s2⟩ := h; exact ⟨m1, m2, ha _ a, hl _ l, d, s1, s2⟩
theorem Sp.tl {A : Assn} {L : List Assn} {m : PM} (h : Sp (A :: L) m) : Sp L m := by
 obtain ⟨m1, m2, a, l, d, s1, s2⟩ := h; exact l.sub s2
theorem Sp.perm {L M : List Assn} (p : List.Perm L M) : ∀ {m : PM}, Sp L m → Sp M m := by
 induction p with
 | nil => exact fun h => h
 | cons x _ ih => exact fun h => Sp.cons (fun _ a => a) (fun _ => ih) h
 | swap x y l => exact fun h => Sp.swap h
 | trans _ _ ih1 ih2 => exact fun h => ih2 (ih1 h)
theorem Sp.app {L M : List Assn} : ∀ {m : PM}, Sp (L ++ M) m ↔ Sp (Sp L :: M) m := by
 induction L with
 | nil =>
  intro m
  refine ⟨fun h => ⟨fun _ => none, m, trivial, h, fun _ => .inl rfl, (fun _ _ e => nomatch e), .refl _⟩, fun h => Sp.tl h⟩
 | cons A L ih =>
  intro m
  constructor
  ·rintro ⟨m1, m2, a, l, d, s1, s2⟩
   obtain ⟨m3, m4, b, c, d34, s3, s4⟩ := ih.1 l
   refine ⟨Un m1 m3, m4, ⟨m1, m3, a, b, d.sub s3, Un.left _ _, Un.right (d.sub s3)⟩, c, Un.dj (d.sub s4) d34, Un.sub s1 (s3.trans s2), s4.trans s2⟩
  ·rintro ⟨m1, m2, ⟨m3, m4, a, l, d34, s3, s4⟩, c, d, s1, s2⟩
   have d32 : Dj m3 m2 := (d.symm.sub s3).symm
   have d42 : Dj m4 m2 := (d.symm.sub s4).symm
   exact ⟨m3, Un m4 m2, a, ih.2 ⟨m4, m2, l, c, d42, Un.left _ _, Un.right d42⟩, (Un.dj d34.symm d32.symm).symm, s3.trans s1, Un.sub (s4.trans s1) s2⟩

def Hs (h : Heap) (L : List Assn) : Prop := Sp L fun b => h[b]?
section
variable {h h' : Heap} {A B C D E G : Assn} {L M : List Assn}
theorem Hs.nil (h : Heap) : Hs h [] := trivial
theorem Hs.ext (H : Hs h L) (e : Ext h h') : Hs h' L := Sp.sub H e
theorem Hs.perm (H : Hs h L) (p : List.Perm L M) : Hs h M := Sp.perm p H
theorem Hs.tl (H : Hs h (A :: L)) : Hs h L := Sp.tl H
theorem Hs.mono (H : Hs h (A :: L)) (k : ∀ m, A m → B m) : Hs h (B :: L) := Sp.cons k (fun _ l => l) H
theorem Hs.mono_tl (H : Hs h (A :: L)) (k : ∀ m, Sp L m → Sp M m) : Hs h (A :: M) := Sp.cons (fun _ a => a) k H
theorem Hs.m1 (H : Hs h (A :: B :: L)) : Hs h (B :: A :: L) := Sp.swap H
theorem Sp.m2 {A0 B0 C0 : Assn} {L : List Assn} {m : PM} (h : Sp (A0 :: B0 :: C0 :: L) m) : Sp (C0 :: A0 :: B0 :: L) m := Sp.swap (Sp.cons (fun _ a => a) (fun _ l => Sp.swap l) h)
theorem Sp.r2 {A0 B0 C0 : Assn} {L : List Assn} {m : PM} (h : Sp (A0 :: B0 :: C0 :: L) m) : Sp (B0 :: C0 :: A0 :: L) m := Sp.cons (fun _ a => a) (fun _ l => Sp.swap l) (Sp.swap h)
theorem Sp.m3 {A0 B0 C0 D0 : Assn} {L : List Assn} {m : PM} (h : Sp (A0 :: B0 :: C0 :: D0 :: L) m) : Sp (D0 :: A0 :: B0 :: C0 :: L) m := Sp.swap (Sp.cons (fun _ a => a) (fun _ l => Sp.m2 l) h)
theorem Sp.r3 {A0 B0 C0 D0 : Assn} {L : List Assn} {m : PM} (h : Sp (A0 :: B0 :: C0 :: D0 :: L) m) : Sp (B0 :: C0 :: D0 :: A0 :: L) m := Sp.cons (fun _ a => a) (fun _ l => Sp.r2 l) (Sp.swap h)
theorem Sp.m4 {A0 B0 C0 D0 E0 : Assn} {L : List Assn} {m : PM} (h : Sp (A0 :: B0 :: C0 :: D0 :: E0 :: L) m) : Sp (E0 :: A0 :: B0 :: C0 :: D0 :: L) m := Sp.swap (Sp.cons (fun _ a => a) (fun _ l => Sp.m3 l) h)
theorem Sp.m5 {A0 B0 C0 D0 E0 F0 : Assn} {L : List Assn} {m : PM} (h : Sp (A0 :: B0 :: C0 :: D0 :: E0 :: F0 :: L) m) : Sp (F0 :: A0 :: B0 :: C0 :: D0 :: E0 :: L) m := Sp.swap (Sp.cons (fun _ a => a) (fun _ l => Sp.m4 l) h)
theorem Sp.m6 {A0 B0 C0 D0 E0 F0 G0 : Assn} {L : List Assn} {m : PM} (h : Sp (A0 :: B0 :: C0 :: D0 :: E0 :: F0 :: G0 :: L) m) : Sp (G0 :: A0 :: B0 :: C0 :: D0 :: E0 :: F0 :: L) m := Sp.swap (Sp.cons (fun _ a => a) (fun _ l => Sp.m5 l) h)
theorem Hs.m2 {A0 B0 C0 : Assn} {L : List Assn} {h : Heap} (H : Hs h (A0 :: B0 :: C0 :: L)) : Hs h (C0 :: A0 :: B0 :: L) := Sp.m2 H
theorem Hs.r2 {A0 B0 C0 : Assn} {L : List Assn} {h : Heap} (H : Hs h (A0 :: B0 :: C0 :: L)) : Hs h (B0 :: C0 :: A0 :: L) := Sp.r2 H
theorem Hs.m3 {A0 B0 C0 D0 : Assn} {L : List Assn} {h : Heap} (H : Hs h (A0 :: B0 :: C0 :: D0 :: L)) : Hs h (D0 :: A0 :: B0 :: C0 :: L) := Sp.m3 H
theorem Hs.r3 {A0 B0 C0 D0 : Assn} {L : List Assn} {h : Heap} (H : Hs h (A0 :: B0 :: C0 :: D0 :: L)) : Hs h (B0 :: C0 :: D0 :: A0 :: L) := Sp.r3 H
theorem Hs.m4 {A0 B0 C0 D0 E0 : Assn} {L : List Assn} {h : Heap} (H : Hs h (A0 :: B0 :: C0 :: D0 :: E0 :: L)) : Hs h (E0 :: A0 :: B0 :: C0 :: D0 :: L) := Sp.m4 H
theorem Hs.m5 {A0 B0 C0 D0 E0 F0 : Assn} {L : List Assn} {h : Heap} (H : Hs h (A0 :: B0 :: C0 :: D0 :: E0 :: F0 :: L)) : Hs h (F0 :: A0 :: B0 :: C0 :: D0 :: E0 :: L) := Sp.m5 H
theorem Hs.m6 {A0 B0 C0 D0 E0 F0 G0 : Assn} {L : List Assn} {h : Heap} (H : Hs h (A0 :: B0 :: C0 :: D0 :: E0 :: F0 :: G0 :: L)) : Hs h (G0 :: A0 :: B0 :: C0 :: D0 :: E0 :: F0 :: L) := Sp.m6 H
theorem Hs.at {i : Nat} (H : Hs h L) (i : Nat) {A : Assn} (e : L[i]? = some A) : Hs h (A :: L.eraseIdx i) := H.perm (by
 have hi : i < L.length := (List.getElem?_eq_some_iff.1 e).1
 have ha : L[i] = A := (List.getElem?_eq_some_iff.1 e).2
 subst ha
 clear e H
 induction L generalizing i with
 | nil => exact absurd hi (by simp)
 | cons x l ih =>
  cases i with
  | zero => exact List.Perm.refl _
  | succ i => exact (List.Perm.cons x (ih i (by simpa using hi))).trans (List.Perm.swap _ _ _))
theorem Hs.app : Hs h (Sp L :: M) ↔ Hs h (L ++ M) := Sp.app.symm
theorem Hs.ex {α : Sort _} {A : α → Assn} : Hs h ((fun m => ∃ x, A x m) :: L) ↔ ∃ x, Hs h (A x :: L) :=
 ⟨fun ⟨m1, m2, ⟨x, a⟩, r⟩ => ⟨x, m1, m2, a, r⟩, fun ⟨x, m1, m2, a, r⟩ => ⟨m1, m2, ⟨x, a⟩, r⟩⟩
theorem Hs.and {φ : Prop} : Hs h ((fun m => φ ∧ A m) :: L) ↔ φ ∧ Hs h (A :: L) :=
 ⟨fun ⟨m1, m2, ⟨f, a⟩, r⟩ => ⟨f, m1, m2, a, r⟩, fun ⟨f, m1, m2, a, r⟩ => ⟨m1, m2, ⟨f, a⟩, r⟩⟩
theorem Hs.fact {φ : Prop} (H : Hs h (A :: L)) (k : ∀ m, A m → Sub m (fun b => h[b]?) → φ) : φ := by
 obtain ⟨m1, m2, a, _, _, s1, _⟩ := H; exact k _ a s1

def ob (b : Nat) (o : Obj) : Assn := fun m => m b = some o
theorem Hs.get {b : Nat} {o : Obj} (H : Hs h (ob b o :: L)) : h[b]? = some o := H.fact fun _ a s => s _ _ a
theorem Hs.set {b : Nat} {o : Obj} (H : Hs h (ob b o :: L)) (o' : Obj) : Hs (h.setIfInBounds b o') (ob b o' :: L) := by
 have hb := H.get
 obtain ⟨m1, m2, a, l, d, s1, s2⟩ := H
 refine ⟨fun x => if x = b then some o' else none, m2, by simp [ob], l, fun x => ?_, fun x y e => ?_, fun x y e => ?_⟩
 ·by_cases hx : x = b
  ·subst hx; right
   rcases d x with k | k
   ·rw [show m1 x = some o from a] at k; cases k
   ·exact k
  ·left; simp [hx]
 ·by_cases hx : x = b
  ·subst hx
   simp only [if_true] at e
   show (h.setIfInBounds x o')[x]? = some y
   rw [get_set, if_pos rfl, if_pos (y138 hb)]; exact e
  ·simp only [if_neg hx] at e; cases e
 ·have hx : b ≠ x := by
   rintro rfl
   rcases d b with k | k
   ·rw [show m1 b = some o from a] at k; cases k
   ·rw [k] at e; cases e
  show (h.setIfInBounds b o')[x]? = some y
  rw [get_set, if_neg hx]; exact s2 x y e
theorem Hs.push (H : Hs h L) (o : Obj) : Hs (h.push o) (ob h.size o :: L) := by
 refine ⟨fun x => if x = h.size then some o else none, fun b => h[b]?, by simp [ob], H, fun x => ?_, fun x y e => ?_, fun x y e => ?_⟩
 ·by_cases hx : x = h.size
  ·right; subst hx; simp
  ·left; simp [hx]
 ·by_cases hx : x = h.size
  ·subst hx
   simp only [if_true] at e
   show (h.push o)[h.size]? = some y
   rw [get_push, if_pos rfl]; exact e
  ·simp only [if_neg hx] at e; cases e
 ·show (h.push o)[x]? = some y
  rw [get_push, if_neg (by have := y138 e; omega)]; exact e
theorem Hs.upd (H : Hs h (A :: L)) (k : ∀ m1 m2 : PM, A m1 → Dj m1 m2 → Sub m1 (fun b => h[b]?) → Sub m2 (fun b => h[b]?) → ∃ m1', B m1' ∧ Dj m1' m2 ∧ Sub m1' (fun b => h'[b]?) ∧ Sub m2 (fun b => h'[b]?)) : Hs h' (B :: L) := by
 obtain ⟨m1, m2, a, l, d, s1, s2⟩ := H
 obtain ⟨m1', a', d', s1', s2'⟩ := k m1 m2 a d s1 s2
 exact ⟨m1', m2, a', l, d', s1', s2'⟩

def ro (h0 : Heap) : Assn := fun m => ∀ b, b < h0.size → m b = h0[b]?
theorem Hs.start (h : Heap) : Hs h [ro h] := ⟨fun b => h[b]?, fun _ => none, fun _ _ => rfl, trivial, fun _ => .inr rfl, .refl _, (fun _ _ e => nomatch e)⟩
theorem Hs.ro_below {h0 : Heap} (H : Hs h (ro h0 :: L)) : ExtB h0.size h0 h := by
 have k : ∀ b, b < h0.size → h[b]? = h0[b]? := H.fact fun m a s b hb => by
  have e : h0[b]? = some h0[b] := Array.getElem?_eq_getElem hb
  rw [e]; exact s _ _ (by rw [a b hb, e])
 refine ⟨?_, k⟩
 rcases Nat.lt_or_ge h.size h0.size with hlt | hge
 ·have := k _ hlt; simp [Array.getElem?_eq_getElem hlt] at this
 ·exact hge
theorem Hs.ro_rd {h0 : Heap} (H : Hs h (ro h0 :: L)) {a : Option Addr} {xs : List Value} (k : Rd h0 a xs) : Rd h a xs := k.keep H.ro_below

def Gv (L : List Assn) (a : Option Addr) (xs : List Value) : Prop := ∀ h, Hs h L → Rd h a xs
theorem Gv.cons {a : Option Addr} {xs : List Value} (k : Gv L a xs) : Gv (A :: L) a xs := fun h H => k h H.tl
theorem Gv.ro {h0 : Heap} {a : Option Addr} {xs : List Value} (k : Rd h0 a xs) : Gv (ro h0 :: L) a xs := fun h H => H.ro_rd k
theorem Gv.take {a : Option Addr} {xs : List Value} (k : Gv L a xs) (n : Nat) : Gv L a (xs.take n) := fun h H => (k h H).take n

theorem Sp.focus {As : List Assn} {i : Nat} {A : Assn} (e : As[i]? = some A) {m : PM} (H : Sp As m) : Sp (A :: As.eraseIdx i) m := by
 refine Sp.perm ?_ H
 have hi : i < As.length := (List.getElem?_eq_some_iff.1 e).1
 have ha : As[i] = A := (List.getElem?_eq_some_iff.1 e).2
 subst ha
 clear e H
 induction As generalizing i with
 | nil => exact absurd hi (by simp)
 | cons x l ih =>
  cases i with
  | zero => exact List.Perm.refl _
  | succ i => exact (List.Perm.cons x (ih (by simpa using hi))).trans (List.Perm.swap _ _ _)
theorem Sp.unfocus {As : List Assn} {i : Nat} {A : Assn} (hi : i < As.length) {m : PM} (H : Sp (A :: As.eraseIdx i) m) : Sp (As.set i A) m := by
 refine Sp.perm ?_ H
 clear H
 induction As generalizing i with
 | nil => exact absurd hi (by simp)
 | cons x l ih =>
  cases i with
  | zero => exact List.Perm.refl _
  | succ i => exact (List.Perm.swap _ _ _).trans (List.Perm.cons x (ih (by simpa using hi)))
theorem Sp.two {As : List Assn} {A : Assn} {m : PM} : Sp (A :: As) m ↔ Sp [A, Sp As] m := by
 constructor
 ·rintro ⟨m1, m2, a, b, c, d, e⟩
  exact ⟨m1, m2, a, ⟨m2, fun _ => none, b, trivial, fun _ => .inr rfl, Sub.refl _, (fun _ _ e => nomatch e)⟩, c, d, e⟩
 ·rintro ⟨m1, m2, a, ⟨m3, m4, b, _, d1, e1, _⟩, c, d, e⟩
  exact ⟨m1, m3, a, b, c.sub e1, d, e1.trans e⟩
theorem Hs.focus {As : List Assn} {i : Nat} (e : As[i]? = some A) (H : Hs h (Sp As :: L)) : Hs h (A :: Sp (As.eraseIdx i) :: L) :=
 Hs.app.1 (H.mono fun m hm => Sp.two.1 (Sp.focus e hm))
theorem Hs.unfocus {As : List Assn} {i : Nat} (hi : i < As.length) (H : Hs h (A :: Sp (As.eraseIdx i) :: L)) : Hs h (Sp (As.set i A) :: L) :=
 ((Hs.app (L := [A, Sp (As.eraseIdx i)])).2 H).mono fun m hm => Sp.unfocus hi (Sp.two.2 hm)

def pt (b : Nat) (t : TypeId) (xs : List Value) : Assn := ob b (.cells xs.toArray t (0, 0))
theorem Hs.blk {b : Nat} {t : TypeId} {xs : List Value} (H : Hs h (pt b t xs :: L)) : Blk h b t xs := H.get
theorem Hs.cell {b : Nat} {t : TypeId} {xs : List Value} {v : Value} {a : Addr} {off : Nat} (H : Hs h (pt b t xs :: L)) (ev : xs[off]? = some v) (ha : a = ⟨b, off, none⟩ := by rfl) : cellH h a = some v := by
 subst ha; exact cell_of H.get (by simpa using ev)
theorem Hs.sto {b : Nat} {t : TypeId} {xs : List Value} {v : Value} {a : Addr} {off : Nat} {K : Heap → Prop} (H : Hs h (pt b t xs :: L)) (ho : off < xs.length) (k : ∀ h', Hs h' (pt b t (xs.set off v) :: L) → K h')
  (hv : oneC v = true := by rfl) (ha : a = ⟨b, off, none⟩ := by rfl) : wr a v K h := by
 subst ha; exact wr_ok H.get ho hv (k _ (Hs.set H _))
theorem Hs.rdc {b : Nat} {t : TypeId} {xs : List Value} (H : Hs h (pt b t xs :: L)) : ∀ {vs : List Value} {off i : Nat}, (xs.drop (off + i)).take vs.length = vs → rdCells h ⟨b, off, none⟩ i vs := by
 intro vs
 induction vs with
 | nil => exact fun _ => trivial
 | cons v vs ih =>
  intro off i e
  have h0 : xs[off + i]? = some v := by
   have := congrArg (·[0]?) e
   simpa [List.getElem?_take, List.getElem?_drop] using this
  refine ⟨?_, ih (off := off) (i := i + 1) ?_⟩
  ·rw [add_mk]; exact H.cell h0
  ·have := congrArg List.tail e
   simpa [← List.drop_one, List.drop_take, List.drop_drop, Nat.add_assoc] using this
theorem Hs.rdc0 {b : Nat} {t : TypeId} {xs : List Value} (H : Hs h (pt b t xs :: L)) {a : Addr} (ha : a = ⟨b, 0, none⟩ := by rfl) : rdCells h a 0 xs := by
 subst ha; exact H.rdc (by simp)
theorem Hs.rdo {b : Nat} {t : TypeId} {xs vs : List Value} {a : Addr} (H : Hs h (pt b t xs :: L)) (off : Nat) (e : (xs.drop off).take vs.length = vs := by rfl) (ha : a = ⟨b, off, none⟩ := by rfl) : rdCells h a 0 vs := by
 subst ha; exact H.rdc (by simpa using e)
theorem Hs.new (H : Hs h L) {t : TypeId} {cs : Array Value} {xs : List Value} (e : cs = xs.toArray := by rfl) : Hs (h.push (.cells cs t (0, 0))) (pt h.size t xs :: L) := by subst e; exact H.push _
theorem Hs.ptrd {b off : Nat} {t : TypeId} {xs ys : List Value} (H : Hs h (pt b t xs :: L)) (e : ys = (xs.drop off).take ys.length) : Rd h (some ⟨b, off, none⟩) ys := Rd.of_blk H.get e

theorem Hs.chg {b : Nat} {o o' : Obj} (H : Hs h (ob b o :: L)) (hk : ∀ j, b ≠ j → h'[j]? = h[j]?) (hb : h'[b]? = some o') : Hs h' (ob b o' :: L) := by
 obtain ⟨m1, m2, a, l, d, s1, s2⟩ := H
 refine ⟨fun x => if x = b then some o' else none, m2, by simp [ob], l, fun x => ?_, fun x y e => ?_, fun x y e => ?_⟩
 ·by_cases hx : x = b
  ·subst hx; right
   rcases d x with k | k
   ·rw [show m1 x = some o from a] at k; cases k
   ·exact k
  ·left; simp [hx]
 ·by_cases hx : x = b
  ·subst hx; simp only [if_true] at e; rw [← e]; exact hb
  ·simp only [if_neg hx] at e; cases e
 ·have hx : b ≠ x := by
   rintro rfl
   rcases d b with k | k
   ·rw [show m1 b = some o from a] at k; cases k
   ·rw [k] at e; cases e
  show h'[x]? = some y
  rw [hk x hx]; exact s2 x y e
theorem Hs.copy {P : Program} {t t2 ty e bt : TypeId} {sz bz b n c m c2 : Nat} {z : Value} {a2 : Option Addr} {xs ys : List Value} {off : Nat} (H : Hs h (pt b bt xs :: L)) (E : Elem P t e sz bz z) (hn : off + ys.length ≤ xs.length) (hr : Rd h a2 ys) (hn0 : a2 = none → m = 0) (hy : ys.length = min m n * sz) (hv : ∀ v ∈ ys, oneC v = true) {K : Value → Heap → Prop}
  (kk : ∀ h', Hs h' (pt b bt (xs.take off ++ ys ++ xs.drop (off + ys.length)) :: L) → K (.int .i64 (min m n : Nat)) h') :
  hwp P (Builtin.copy_ #[t, t2] ty #[.slice (some ⟨b, off, none⟩) n c, .slice a2 m c2]) K h :=
 hwp_copy E H.blk hy hr hn0 hn hv fun h' hk hs hb => kk h' (H.chg hk hb)
theorem idx {P : Program} {t e : TypeId} {bz : Nat} {z : Value} (E : Elem P t e 1 bz z) {a : Option Addr} {n c : Nat} {k : IntKind} {i : Int} {xs : List Value} {v : Value} (hr : Rd h a xs) (h0 : 0 ≤ i) (hi : i < n) (hv : xs[i.toNat]? = some v)
  {R : Addr → Heap → Prop} (K : ∀ t, cellH h t = some v → R t h) : hwp P (Instr.indexAt t (.slice a n c) (.int k i)) (fun u h1 => ∃ t, u = .pointer (some t) ∧ R t h1) h := by
 obtain ⟨ad, rfl, hc⟩ := hr _ _ hv
 refine hwp_index E h0 hi ⟨_, rfl, K _ ?_⟩
 rw [Nat.mul_one]; exact hc
theorem idxs {P : Program} {t e : TypeId} {sz bz : Nat} {z : Value} (E : Elem P t e sz bz z) {a : Option Addr} {n c : Nat} {k : IntKind} {i : Int} {xs vs : List Value} (hr : Rd h a xs) (h0 : 0 ≤ i) (hi : i < n) (hne : vs ≠ []) (hv : ∀ (j : Nat) v, vs[j]? = some v → xs[i.toNat * sz + j]? = some v)
  {R : Addr → Heap → Prop} (K : ∀ t, rdCells h t 0 vs → R t h) : hwp P (Instr.indexAt t (.slice a n c) (.int k i)) (fun u h1 => ∃ t, u = .pointer (some t) ∧ R t h1) h := by
 obtain ⟨v0, l0, rfl⟩ := List.exists_cons_of_ne_nil hne
 obtain ⟨ad, rfl, hc⟩ := hr _ _ (hv 0 v0 rfl)
 refine hwp_index E h0 hi ⟨_, rfl, K _ ?_⟩
 have key : ∀ (ws : List Value) (j0 : Nat), (∀ (j : Nat) v, ws[j]? = some v → (v0 :: l0)[j0 + j]? = some v) → rdCells h (ad.add (i.toNat * sz)) j0 ws := by
  intro ws
  induction ws with
  | nil => exact fun _ _ => trivial
  | cons w ws ih =>
   intro j0 hw
   refine ⟨?_, ih (j0 + 1) fun j v hj => ?_⟩
   ·rw [add_add]; exact hr.cell (hv j0 w (by have := hw 0 w rfl; simpa using this))
   ·have := hw (j + 1) v (by simpa using hj)
    rwa [show j0 + (j + 1) = j0 + 1 + j by omega] at this
 exact key _ 0 fun j v hj => by simpa using hj
theorem Hs.wrs_at {b : Nat} {t : TypeId} {K : Heap → Prop} {off : Nat} : ∀ (vs : List Value) {i : Nat} {xs : List Value} {h : Heap}, Hs h (pt b t xs :: L) → off + i + vs.length ≤ xs.length → (∀ v ∈ vs, oneC v = true) →
  (∀ h', Hs h' (pt b t (xs.take (off + i) ++ vs ++ xs.drop (off + i + vs.length)) :: L) → K h') → wrCells ⟨b, off, none⟩ i vs K h := by
 intro vs
 induction vs with
 | nil => intro i xs h H hl hv kk; exact kk h (by simpa using H)
 | cons v vs ih =>
  intro i xs h H hl hv kk
  simp only [List.length_cons] at hl
  refine H.sto (a := Addr.add ⟨b, off, none⟩ i) (off := off + i) (by omega) (fun h1 H1 => ?_) (hv v (by simp)) (add_mk _ _ _)
  refine ih H1 (by simp; omega) (fun u hu => hv u (by simp [hu])) fun h2 H2 => kk h2 ?_
  have e : (xs.set (off + i) v).take (off + (i + 1)) ++ vs ++ (xs.set (off + i) v).drop (off + (i + 1) + vs.length) = xs.take (off + i) ++ (v :: vs) ++ xs.drop (off + i + (v :: vs).length) := by
   rw [List.drop_set, if_pos (by omega), List.take_set, ← Nat.add_assoc, List.take_succ_eq_append_getElem (by omega), List.set_append_right _ _ (by simp; omega)]
   simp only [List.length_take, Nat.min_eq_left (show off + i ≤ xs.length by omega), Nat.sub_self, List.set_cons_zero, List.append_assoc, List.cons_append, List.nil_append, List.length_cons]
   congr 4; omega
  rw [e] at H2; exact H2
theorem Hs.wrs {b : Nat} {t : TypeId} {K : Heap → Prop} {vs xs : List Value} {a : Addr} (H : Hs h (pt b t xs :: L)) (kk : ∀ h', Hs h' (pt b t vs :: L) → K h') (hl : vs.length = xs.length := by rfl) (hv : ∀ v ∈ vs, oneC v = true := by simp [oneC]) (ha : a = ⟨b, 0, none⟩ := by rfl) : wrCells a 0 vs K h := by
 subst ha
 refine Hs.wrs_at vs H (by omega) hv fun h' H' => kk h' ?_
 simpa [hl] using H'
theorem Hs.wrso {b : Nat} {t : TypeId} {K : Heap → Prop} {vs xs : List Value} {a : Addr} (off : Nat) (H : Hs h (pt b t xs :: L)) (kk : ∀ h', Hs h' (pt b t (xs.take off ++ vs ++ xs.drop (off + vs.length)) :: L) → K h') (hl : off + vs.length ≤ xs.length) (hv : ∀ v ∈ vs, oneC v = true := by simp [oneC]) (ha : a = ⟨b, off, none⟩ := by rfl) : wrCells a 0 vs K h := by
 subst ha
 exact Hs.wrs_at vs H (by omega) hv fun h' H' => kk h' (by simpa using H')
theorem y153 {α : Type} {φ : α → List Value} {sz : Nat} (hφ : ∀ x, (φ x).length = sz) (l : List α) : (l.flatMap φ).length = l.length * sz := by
 induction l with
 | nil => simp
 | cons x l ih => simp [List.flatMap_cons, hφ, ih, Nat.add_mul, Nat.add_comm]
theorem flat_get {α : Type} {φ : α → List Value} {sz : Nat} (hφ : ∀ x, (φ x).length = sz) {l : List α} {i : Nat} {x : α} (hx : l[i]? = some x) : ∀ (j : Nat) (v : Value), (φ x)[j]? = some v → (l.flatMap φ)[i * sz + j]? = some v := by
 intro j v hv
 have hj : j < sz := by rw [← hφ x]; exact (List.getElem?_eq_some_iff.1 hv).1
 induction l generalizing i with
 | nil => simp at hx
 | cons y l ih =>
  rw [List.flatMap_cons]
  cases i with
  | zero =>
   simp only [List.getElem?_cons_zero, Option.some.injEq] at hx; subst hx
   rw [Nat.zero_mul, Nat.zero_add, List.getElem?_append_left (by rw [hφ]; exact hj)]; exact hv
  | succ i =>
   rw [List.getElem?_append_right (by rw [hφ, Nat.add_mul]; omega), hφ, show (i + 1) * sz + j - sz = i * sz + j by rw [Nat.add_mul]; omega]
   exact ih (by simpa using hx)
theorem idxf {α : Type} {φ : α → List Value} {P : Program} {t e : TypeId} {sz bz : Nat} {z : Value} (E : Elem P t e sz bz z) {a : Option Addr} {n c : Nat} {k : IntKind} {i : Int} {l : List α} {x : α} (hr : Rd h a (l.flatMap φ)) (hφ : ∀ x, (φ x).length = sz) (hs : 0 < sz) (h0 : 0 ≤ i) (hi : i < n) (hx : l[i.toNat]? = some x)
  {R : Addr → Heap → Prop} (K : ∀ t, rdCells h t 0 (φ x) → R t h) : hwp P (Instr.indexAt t (.slice a n c) (.int k i)) (fun u h1 => ∃ t, u = .pointer (some t) ∧ R t h1) h :=
 idxs E hr h0 hi (fun e => by have := hφ x; rw [e] at this; simp at this; omega) (flat_get hφ hx) K
theorem Hs.ne {b c : Nat} {o p : Obj} (H : Hs h (ob b o :: ob c p :: L)) : b ≠ c := by
 obtain ⟨m1, m2, a, ⟨m3, m4, b', _, _, s3, _⟩, d, _, _⟩ := H
 rintro rfl
 rcases d b with e | e
 ·rw [show m1 b = some o from a] at e; cases e
 ·rw [s3 _ _ b'] at e; cases e

def own (a : Option Addr) (n c : Nat) (e : TypeId) (sz : Nat) (xs : List Value) : Assn := fun m =>
 xs.length = n * sz ∧ n ≤ c ∧ ((a = none ∧ c = 0) ∨ ∃ b off cs, a = some ⟨b, off, none⟩ ∧ m b = some (.cells cs e (0, 0)) ∧ off + c * sz ≤ cs.size ∧ ∀ i, i < xs.length → cs[off + i]? = xs[i]?)
section
variable {a : Option Addr} {n c sz : Nat} {e : TypeId} {xs : List Value}
theorem Hs.Own (H : Hs h (own a n c e sz xs :: L)) : Own h a n c e sz xs := H.fact fun m k s => by
 obtain ⟨h1, h2, h3 | ⟨b, off, cs, ha, hb, hc, hx⟩⟩ := k
 ·exact ⟨h1, h2, .inl h3⟩
 ·exact ⟨h1, h2, .inr ⟨b, off, cs, ha, s _ _ hb, hc, hx⟩⟩
theorem Hs.rd (H : Hs h (own a n c e sz xs :: L)) : Rd h a xs := H.Own.rd
theorem Hs.own_len (H : Hs h (own a n c e sz xs :: L)) : xs.length = n * sz := H.Own.1
theorem Hs.own_le (H : Hs h (own a n c e sz xs :: L)) : n ≤ c := H.Own.2.1
theorem Gv.own : Gv (own a n c e sz xs :: L) a xs := fun h H => H.rd
theorem Hs.own_nil (H : Hs h L) (e : TypeId) (sz : Nat) : Hs h (own none 0 0 e sz [] :: L) :=
 ⟨fun _ => none, fun b => h[b]?, ⟨by simp, Nat.le_refl _, .inl ⟨rfl, rfl⟩⟩, H, fun _ => .inl rfl, (fun _ _ e => nomatch e), .refl _⟩
theorem Hs.pt_own {b : Nat} {ys : List Value} (H : Hs h (pt b e ys :: L)) (off : Nat) (hy : xs = (ys.drop off).take (n * sz)) (hl : xs.length = n * sz) (hnc : n ≤ c) (hc : off + c * sz ≤ ys.length) : Hs h (own (some ⟨b, off, none⟩) n c e sz xs :: L) :=
 H.mono fun m k => ⟨hl, hnc, .inr ⟨b, off, ys.toArray, rfl, k, by simpa using hc, fun i hi => by
  rw [hy]
  simp only [List.getElem?_toArray, List.getElem?_take, List.getElem?_drop]
  rw [if_pos (by omega)]⟩⟩
theorem Hs.own_pt (H : Hs h (own a n c e sz xs :: L)) (hc : c * sz ≠ 0) : ∃ b off ys, a = some ⟨b, off, none⟩ ∧ off + c * sz ≤ ys.length ∧ xs = (ys.drop off).take (n * sz) ∧ Hs h (pt b e ys :: L) := by
 obtain ⟨m1, m2, ⟨h1, h2, h3⟩, l, d, s1, s2⟩ := H
 rcases h3 with ⟨_, rfl⟩ | ⟨b, off, cs, ha, hb, hcs, hx⟩
 ·simp at hc
 ·have h5 := Nat.mul_le_mul_right sz h2
  refine ⟨b, off, cs.toList, ha, by simpa using hcs, ?_, m1, m2, by simpa [pt, ob] using hb, l, d, s1, s2⟩
  apply List.ext_getElem?
  intro i
  simp only [List.getElem?_take, List.getElem?_drop, Array.getElem?_toList]
  split
  ·rw [hx i (by omega)]
  ·rw [List.getElem?_eq_none (by omega)]
theorem Hs.append {P : Program} {t t2 ty : TypeId} {bz m : Nat} {z x : Value} {ut : TypeDesc} {ys : List Value} {K : Value → Heap → Prop} (H : Hs h (HW.own a n c e sz xs :: L)) (E : Elem P t e sz bz z) (hx : Src h x m sz ys) (hv : ∀ v ∈ ys, oneC v = true)
  (k : ∀ h' a' c', Hs h' (HW.own a' (n + m) c' e sz (xs ++ ys) :: L) → K (.slice a' (n + m) c') h')
  (hm : (2 * (n + m) + 192) * bz ≤ 2 ^ 48) (hm0 : n + m < 2 ^ 62) (hz : z.cells.size = sz := by rfl) (hu : P.underlying t2 = some ut := by kernel_rfl) (hnu : notInt ut = true := by rfl) : hwp P (Builtin.append_ #[t, t2] ty #[.slice a n c, x]) K h := by
 obtain ⟨m1, m2, k1, l, d, s1, s2⟩ := H
 have ho : HW.Own h a n c e sz xs := by
  obtain ⟨h1, h2, h3 | ⟨b, off, cs, ha, hb, hc, hx⟩⟩ := k1
  ·exact ⟨h1, h2, .inl h3⟩
  ·exact ⟨h1, h2, .inr ⟨b, off, cs, ha, s1 _ _ hb, hc, hx⟩⟩
 refine hwp_append E hz hu hnu ho hx hv hm hm0 ?_
 intro h' a' c' hs hk ho' hb' hfar
 refine k h' a' c' ?_
 have hm2 : Sub m2 (fun b => h'[b]?) := by
  intro b o hbo
  have hlt := y138 (s2 b o hbo)
  refine (hk b hlt ?_).trans (s2 b o hbo)
  intro ad had hadb
  obtain ⟨_, _, ⟨h1, h2⟩ | ⟨b1, off1, cs1, ha1, hb1, _⟩⟩ := k1
  ·rw [h1] at had; cases had
  ·rw [had] at ha1; cases ha1
   subst hadb
   rcases d b1 with q | q
   ·rw [hb1] at q; cases q
   ·rw [hbo] at q; cases q
 obtain ⟨g1, g2, g3⟩ := ho'
 rcases g3 with g3 | ⟨b, off, cs, ha, hb, hc, hxx⟩
 ·exact ⟨fun _ => none, m2, ⟨g1, g2, .inl g3⟩, l, fun _ => .inl rfl, (fun _ _ e => nomatch e), hm2⟩
 ·refine ⟨fun x => if x = b then some (.cells cs e (0, 0)) else none, m2, ⟨g1, g2, .inr ⟨b, off, cs, ha, by simp, hc, hxx⟩⟩, l, fun x => ?_, fun x y e => ?_, hm2⟩
  ·by_cases hxb : x = b
   ·right; subst hxb
    cases hq : m2 x with
    | none => rfl
    | some o =>
     exfalso
     have hlt := y138 (s2 x o hq)
     rcases (hb' _ ha).2 with ⟨ad0, h1, h2⟩ | h1
     ·obtain ⟨_, _, ⟨q1, q2⟩ | ⟨b1, off1, cs1, ha1, hb1, _⟩⟩ := k1
      ·rw [q1] at h1; cases h1
      ·rw [h1] at ha1; cases ha1
       simp only at h2; subst h2
       rcases d b1 with q | q
       ·rw [hb1] at q; cases q
       ·rw [hq] at q; cases q
     ·simp only at h1; omega
   ·left; simp [hxb]
  ·by_cases hx' : x = b
   ·subst hx'; simp only [if_true] at e; rw [← e]; exact hb
   ·simp only [if_neg hx'] at e; cases e
theorem Hs.app_sl {P : Program} {t ty : TypeId} {bz m c2 : Nat} {z : Value} {a2 : Option Addr} {ys : List Value} {K : Value → Heap → Prop} (H : Hs h (HW.own a n c e sz xs :: L)) (E : Elem P t e sz bz z) (hr : Rd h a2 ys) (hl : ys.length = m * sz) (hn0 : a2 = none → m = 0) (hv : ∀ v ∈ ys, oneC v = true)
  (k : ∀ h' a' c', Hs h' (HW.own a' (n + m) c' e sz (xs ++ ys) :: L) → K (.slice a' (n + m) c') h')
  (hm : (2 * (n + m) + 192) * bz ≤ 2 ^ 48) (hm0 : n + m < 2 ^ 62) (hz : z.cells.size = sz := by rfl) : hwp P (Builtin.append_ #[t, t] ty #[.slice a n c, .slice a2 m c2]) K h :=
 H.append E (x := .slice a2 m c2) ⟨rfl, hl, hr, hn0⟩ hv k hm hm0 hz (hu := E.und) rfl
theorem Hs.app_vals {P : Program} {t ty : TypeId} {bz m : Nat} {z : Value} {cs : Array Value} {ys : List Value} {K : Value → Heap → Prop} (H : Hs h (HW.own a n c e sz xs :: L)) (E : Elem P t e sz bz z) (hcs : cs = ys.toArray) (hl : ys.length = m * sz) (hv : ∀ v ∈ ys, oneC v = true)
  (k : ∀ h' a' c', Hs h' (HW.own a' (n + m) c' e sz (xs ++ ys) :: L) → K (.slice a' (n + m) c') h')
  (hm : (2 * (n + m) + 192) * bz ≤ 2 ^ 48) (hm0 : n + m < 2 ^ 62) (hz : z.cells.size = sz := by rfl) : hwp P (Builtin.append_ #[t, t] ty #[.slice a n c, .slice (some ⟨h.size, 0, none⟩) m m]) K (h.push (.cells cs e (0, 0))) := by
 subst hcs
 have H1 : Hs (h.push (.cells ys.toArray e (0, 0))) (HW.own a n c e sz xs :: pt h.size e ys :: L) := (H.push _).m1
 have hx : Src (h.push (.cells ys.toArray e (0, 0))) (.slice (some ⟨h.size, 0, none⟩) m m) m sz ys := ⟨rfl, hl, H1.m1.ptrd (by simp), fun h => by cases h⟩
 exact H1.append E hx hv (fun h' a' c' H' => k h' a' c' (H'.mono_tl fun _ l => Sp.tl l)) hm hm0 hz (hu := E.und)
theorem Hs.setAt (H : Hs h (own a n c e sz xs :: L)) {b off : Nat} (ha : a = some ⟨b, off, none⟩) {i : Nat} (hi : i < xs.length) {v : Value} {K : Heap → Prop} (hv : oneC v = true) (k : ∀ h', Hs h' (own a n c e sz (xs.set i v) :: L) → K h') : wr ⟨b, off + i, none⟩ v K h := by
 have hlen := H.own_len
 have hle := H.own_le
 have h5 := Nat.mul_le_mul_right sz hle
 obtain ⟨b1, off1, ys, ha1, hc1, hx1, H1⟩ := H.own_pt (by omega)
 rw [ha] at ha1; cases ha1
 refine H1.sto (off := off + i) (by omega) ?_ hv
 intro h' H'
 refine k h' ?_
 subst ha
 refine H'.pt_own off ?_ (by simpa using hlen) hle (by simpa using hc1)
 rw [hx1, List.drop_set, if_neg (by omega), List.take_set, show off + i - off = i by omega]
end
end
end Go.HW

namespace Go.HW
open Go

theorem wrapU (k : IntKind) (hk : k.signed = false) (a : Nat) : k.wrap (a : Int) = ((a % 2 ^ k.bits : Nat) : Int) := by
 rw [wrap_bv hk, BitVec.ofInt_natCast, BitVec.toNat_ofNat]
theorem and_u {k : IntKind} (hk : k.signed = false) {a b : Nat} (ha : a < 2 ^ k.bits) (hb : b < 2 ^ k.bits) : bAnd k a b = ((a &&& b : Nat) : Int) := by
 have := bAnd_bv hk (BitVec.ofNat k.bits a) (BitVec.ofNat k.bits b)
 rwa [BitVec.toNat_and, BitVec.toNat_ofNat, BitVec.toNat_ofNat, Nat.mod_eq_of_lt ha, Nat.mod_eq_of_lt hb] at this
theorem xor_u {k : IntKind} (hk : k.signed = false) {a b : Nat} (ha : a < 2 ^ k.bits) (hb : b < 2 ^ k.bits) : bXor k a b = ((a ^^^ b : Nat) : Int) := by
 have := bXor_bv hk (BitVec.ofNat k.bits a) (BitVec.ofNat k.bits b)
 rwa [BitVec.toNat_xor, BitVec.toNat_ofNat, BitVec.toNat_ofNat, Nat.mod_eq_of_lt ha, Nat.mod_eq_of_lt hb] at this
theorem shl_u {k : IntKind} (hk : k.signed = false) (a : Nat) {n : Int} {m : Nat} (hn : n = m) (ha : a < 2 ^ k.bits) : sShl k a n = ((a * 2 ^ m % 2 ^ k.bits : Nat) : Int) := by
 subst hn
 have := sShl_bv hk (BitVec.ofNat k.bits a) m
 rw [BitVec.toNat_shiftLeft, BitVec.toNat_ofNat, Nat.mod_eq_of_lt ha, Int.toNat_natCast, Nat.shiftLeft_eq] at this
 exact this
theorem shr_n {k : IntKind} (a : Nat) {n : Int} {m : Nat} (hn : n = m) (ha : a < 2 ^ k.bits) : sShr k a n = ((a / 2 ^ m : Nat) : Int) := by
 subst hn
 have := sShr_bv (k := k) (BitVec.ofNat k.bits a) m
 rw [BitVec.toNat_ushiftRight, BitVec.toNat_ofNat, Nat.mod_eq_of_lt ha, Int.toNat_natCast, Nat.shiftRight_eq_div_pow] at this
 exact this
theorem wrap_u8 (a : Nat) : IntKind.u8.wrap (a : Int) = ((a % 256 : Nat) : Int) := wrapU .u8 rfl a
theorem wrap_u8_id {a : Nat} (h : a < 256) : IntKind.u8.wrap (a : Int) = (a : Int) := by rw [wrap_u8, Nat.mod_eq_of_lt h]
theorem and_u64 {a b : Nat} (ha : a < 18446744073709551616) (hb : b < 18446744073709551616) : bAnd .u64 a b = ((a &&& b : Nat) : Int) := and_u (k := .u64) rfl ha hb
theorem xor_u64 {a b : Nat} (ha : a < 18446744073709551616) (hb : b < 18446744073709551616) : bXor .u64 a b = ((a ^^^ b : Nat) : Int) := xor_u (k := .u64) rfl ha hb
theorem shl_u64 {a m : Nat} (ha : a < 18446744073709551616) : sShl .u64 a m = ((a * 2 ^ m % 18446744073709551616 : Nat) : Int) := shl_u (k := .u64) rfl a rfl ha
theorem shr_u64 {a m : Nat} (ha : a < 18446744073709551616) : sShr .u64 a m = ((a / 2 ^ m : Nat) : Int) := shr_n (k := .u64) a rfl ha
theorem wrap_u64 (a : Nat) : IntKind.u64.wrap (a : Int) = ((a % 18446744073709551616 : Nat) : Int) := wrapU .u64 rfl a
theorem y134 {a : Nat} (h : a < 18446744073709551616) : IntKind.u64.wrap (a : Int) = (a : Int) := by rw [wrap_u64, Nat.mod_eq_of_lt h]
theorem y34 {z : Int} (h0 : -9223372036854775808 ≤ z) (h : z < 9223372036854775808) : IntKind.i64.wrap z = z := i64_id (by omega)
theorem tdiv_n (a b : Nat) : Int.tdiv (a : Int) b = ((a / b : Nat) : Int) := (Int.ofNat_tdiv a b).symm
end Go.HW

namespace Go.HW
open Go Go.ChangeShapes Go.WideShapes Go.RowKit

def Dat (P : Program) (W : World) (t : TypeId) (cs : List Value) : Prop := ∃ (H : Type) (enc : TypeId × Value → H) (sp : Nat → Bool) (hd : Bool) (fuel : Nat) (x : DataW H × List MemPlace), DataW.trod enc P W 0 sp hd fuel t cs = some x ∧ ∀ n ∈ x.1.weights P t, n ≤ reachBytes
theorem y203 {H : Type} {P : Program} {e : TypeId} : ∀ {l : List (DataW H)} {d : DataW H}, d ∈ l → ∀ n ∈ d.weights P e, n ∈ DataW.weightsAll P e l
 | x :: l, d, hd, n, hn => by
  simp only [DataW.weightsAll, List.mem_append]
  rcases List.mem_cons.1 hd with rfl | h
  ·exact .inl hn
  ·exact .inr (y203 h n hn)
 | [], _, hd, _, _ => by simp at hd
section
variable {P : Program} {W : World} {t e : TypeId} {cs : List Value}
theorem Dat.of {H : Type} {enc : TypeId × Value → H} {sp : Nat → Bool} {hd : Bool} {v : Value} {d : DataW H} {p : List MemPlace} (h : DataW.Trod enc P W 0 sp hd t v d p) (hw : ∀ n ∈ d.weights P t, n ≤ reachBytes) : Dat P W t v.cells.toList := by
 obtain ⟨n, hn⟩ := h; exact ⟨H, enc, sp, hd, n, _, hn, hw⟩
theorem reach_at {H : Type} {ts : List TypeId} {ds : List (DataW H)} (h : (DataW.weightsEach P ts ds).all (· ≤ reachBytes) = true) {j : Nat} {t : TypeId} {d : DataW H} (ht : ts[j]? = some t) (hd : ds[j]? = some d) : ∀ n ∈ d.weights P t, n ≤ reachBytes := fun n hn => by
 simpa using List.all_eq_true.1 h _ (DataW.weights_mem_each ht hd n hn)
theorem Dat.bool (h : Dat P W t cs) (ht : P.underlying t = some .bool) : ∃ b, cs = [.bool b] := by
 obtain ⟨H, enc, sp, hd, n, x, h, _⟩ := h; obtain ⟨b, h, _⟩ := DataW.trod_bool ht h; exact ⟨b, h⟩
theorem Dat.int {k : IntKind} (h : Dat P W t cs) (ht : P.underlying t = some (.int k)) : ∃ n, cs = [.int k n] ∧ (Lit.int k n).wf = true := by
 obtain ⟨H, enc, sp, hd, n, x, h, _⟩ := h; obtain ⟨b, h, _, h2⟩ := DataW.trod_int ht h; exact ⟨b, h, h2⟩
theorem Dat.i64 (h : Dat P W t cs) (ht : P.underlying t = some (.int .i64)) : ∃ n : Int, cs = [.int .i64 n] ∧ -9223372036854775808 ≤ n ∧ n ≤ 9223372036854775807 := by
 obtain ⟨n, h, w⟩ := h.int ht; have := bounds_i64 w; exact ⟨n, h, by omega, by omega⟩
theorem Dat.u8 (h : Dat P W t cs) (ht : P.underlying t = some (.int .u8)) : ∃ n : Nat, cs = [.int .u8 n] ∧ n < 256 := by
 obtain ⟨n, h, w⟩ := h.int ht; have := bounds_u8 w; exact ⟨n.toNat, by rw [h, Int.toNat_of_nonneg (by omega)], by omega⟩
theorem Dat.u64 (h : Dat P W t cs) (ht : P.underlying t = some (.int .u64)) : ∃ n : Nat, cs = [.int .u64 n] ∧ n < 18446744073709551616 := by
 obtain ⟨n, h, w⟩ := h.int ht; have := bounds_u64 w; exact ⟨n.toNat, by rw [h, Int.toNat_of_nonneg (by omega)], by omega⟩
theorem Dat.str (h : Dat P W t cs) (ht : P.underlying t = some .string) : ∃ s : ByteArray, cs = [.string s] ∧ s.size ≤ 140737488351232 := by
 obtain ⟨H, enc, sp, hd, n, x, h, hw⟩ := h; obtain ⟨b, hc, rfl, h2⟩ := DataW.trod_string ht h
 exact ⟨b, hc, hw _ (by simp only [DataW.weights, List.mem_singleton, Array.length_toList]; rfl)⟩
theorem Dat.struct {fs : Array Field} (h : Dat P W t cs) (ht : P.underlying t = some (.struct fs)) : cs.length = P.cellsOf t ∧ ∀ (i : Nat) (f : Field), fs[i]? = some f → Dat P W f.type ((cs.drop f.offset).take (P.cellsOf f.type)) := by
 obtain ⟨H, enc, sp, hd, n, x, h, hw⟩ := h
 obtain ⟨xs, m, _, rfl, hl, hxl, hf⟩ := DataW.trod_struct ht h
 refine ⟨hl, fun i f hif => ?_⟩
 have hi : i < xs.length := by rw [hxl]; exact (Array.getElem?_eq_some_iff.1 hif).1
 have := hf i f hif
 rw [List.getElem?_eq_getElem hi] at this
 refine ⟨H, enc, sp, hd, m, _, this, fun n hn => hw n ?_⟩
 simp only [DataW.weights, ht]
 exact DataW.weights_mem_each (j := i) (t := f.type) (d := (xs[i]).1) (by simp [hif]) (by simp [hi]) n hn
theorem struct_of {P : Program} {t : TypeId} (h : (fieldsOf P t).isEmpty = false) : ∃ fs, P.underlying t = some (.struct fs) := by
 unfold fieldsOf at h
 split at h
 ·rename_i fs hfs; exact ⟨fs, hfs⟩
 ·cases h
theorem Dat.fields (h : Dat P W t cs) : ∀ x ∈ fieldsOf P t, Dat P W x.1 ((cs.drop x.2.1).take x.2.2) := by
 intro x hx
 unfold fieldsOf at hx
 split at hx
 ·rename_i fs hfs
  simp only [List.mem_map] at hx
  obtain ⟨f, hf, rfl⟩ := hx
  obtain ⟨i, hi, rfl⟩ := List.getElem_of_mem hf
  exact (h.struct hfs).2 i _ (by simp_all)
 ·simp at hx
theorem Dat.array {n : Nat} (h : Dat P W t cs) (ht : P.underlying t = some (.array n e)) : cs.length = P.cellsOf t ∧ ∀ i, i < n → Dat P W e ((cs.drop (i * P.cellsOf e)).take (P.cellsOf e)) := by
 obtain ⟨H, enc, sp, hd, fuel, x, h, hw⟩ := h
 cases fuel with
 | zero => simp [DataW.trod] at h
 | succ m =>
  unfold DataW.trod at h
  rw [ht] at h
  split at h <;> simp_all
  obtain ⟨hl, xs, hp, rfl⟩ := h
  intro i hi
  have h1 := mapM_some_get hp i i (by simp [hi])
  have h2 := mapM_some_length hp
  have hx : i < xs.length := by simp at h2; omega
  rw [List.getElem?_eq_getElem hx] at h1
  refine ⟨H, enc, sp, hd, m, _, h1, fun n hn => hw n ?_⟩
  simp only [DataW.weights, ht]
  exact y203 (List.mem_map_of_mem (List.getElem_mem hx)) n hn
theorem mapM_cells {α β : Type} {f : α → Option β} : ∀ {l : List α} {r : List β}, l.mapM f = some r → r.length = l.length ∧ ∀ (i : Nat) a b, l[i]? = some a → r[i]? = some b → f a = some b := by
 intro l
 induction l with
 | nil => intro r h; simp at h; subst h; simp
 | cons a l ih =>
  intro r h
  simp only [List.mapM_cons] at h
  cases ha : f a with
  | none => rw [ha] at h; simp at h
  | some b =>
   rw [ha] at h
   cases hl : l.mapM f with
   | none => rw [hl] at h; simp at h
   | some bs =>
    rw [hl] at h
    simp at h; subst h
    obtain ⟨h1, h2⟩ := ih hl
    refine ⟨by simp [h1], fun i x y hx hy => ?_⟩
    cases i with
    | zero => simp at hx hy; subst hx hy; exact ha
    | succ i => exact h2 i x y (by simpa using hx) (by simpa using hy)
theorem cells_get {W : World} {base : Nat} {a : Addr} {n : Nat} {cs : List Value} (h : W.cells? base a n = some cs) : cs.length = n ∧ ∀ (i : Nat) v, cs[i]? = some v → cellH W.heap (a.add i) = some v := by
 unfold World.cells? at h
 split at h
 ·obtain ⟨h1, h2⟩ := mapM_cells h
  refine ⟨by simpa using h1, fun i v hv => ?_⟩
  have hi : i < n := by have := (List.getElem?_eq_some_iff.1 hv).1; simpa [h1] using this
  have := h2 i i v (by simp [hi]) hv
  rwa [cell_w] at this
 ·cases h
theorem Dat.slice (h : Dat P W t cs) (ht : P.underlying t = some (.slice e)) : ∃ (a : Option Addr) (n c : Nat), cs = [.slice a n c] ∧ n ≤ c ∧ c < 9223372036854775808 ∧ (a = none → c = 0) ∧ n * P.bytesOf e ≤ 140737488351232 ∧
  ∀ i, i < n → ∃ ad ecs, a = some ad ∧ ecs.length = P.cellsOf e ∧ (∀ (j : Nat) v, ecs[j]? = some v → cellH W.heap (ad.add (i * P.cellsOf e + j)) = some v) ∧ Dat P W e ecs := by
 obtain ⟨H, enc, sp, hd, fuel, x, h, hw⟩ := h
 rcases DataW.trod_slice ht h with ⟨rfl, _⟩ | ⟨a, len, cap, elems, rest, n, _, rfl, rfl, hb, hl, hm, hlen, hel, _, _⟩
 ·exact ⟨none, 0, 0, rfl, Nat.le_refl _, by omega, fun _ => rfl, by omega, fun i hi => by omega⟩
 ·simp only [DataW.weights, ht] at hw
  have hw0 := hw _ (List.mem_cons_self ..)
  have hwl : len * P.bytesOf e ≤ 140737488351232 := by
   refine Nat.le_trans (Nat.mul_le_mul_right _ ?_) hw0
   simp only [List.length_map]; omega
  refine ⟨some a, len, cap, rfl, hl, by have : maxLen = 2 ^ 63 - 1 := rfl; omega, (fun h => nomatch h), hwl, fun i hi => ?_⟩
  have h1 := hel i hi
  have hil : i < elems.length := by omega
  rw [List.getElem?_eq_getElem hil, Option.bind_eq_some_iff] at h1
  obtain ⟨ecs, hc, hg⟩ := h1
  obtain ⟨q1, q2⟩ := cells_get hc
  refine ⟨a, ecs, rfl, q1, fun j v hv => by rw [← add_add]; exact q2 j v hv, H, enc, sp, hd, n, _, hg, fun n hn => hw n ?_⟩
  exact List.mem_cons_of_mem _ (List.mem_append_left _ (y203 (List.mem_map_of_mem (List.getElem_mem hil)) n hn))
theorem Dat.rows {α : Type} (φ : α → List Value) (wf : α → Prop) {sz : Nat} (h : Dat P W t cs) (ht : P.underlying t = some (.slice e)) (hc : P.cellsOf e = sz) (hφ : ∀ x, (φ x).length = sz)
  (step : ∀ ecs, ecs.length = sz → Dat P W e ecs → ∃ x, ecs = φ x ∧ wf x) :
  ∃ (a : Option Addr) (n c : Nat) (l : List α), cs = [.slice a n c] ∧ Rd W.heap a (l.flatMap φ) ∧ l.length = n ∧ n ≤ c ∧ c < 9223372036854775808 ∧ (a = none → c = 0) ∧ n * P.bytesOf e ≤ 140737488351232 ∧ ∀ x ∈ l, wf x := by
 obtain ⟨a, n, c, h1, h2, h3, h4, hz, h5⟩ := h.slice ht
 have key : ∀ k, k ≤ n → ∃ l : List α, l.length = k ∧ (∀ x ∈ l, wf x) ∧ Rd W.heap a (l.flatMap φ) := by
  intro k
  induction k with
  | zero => exact fun _ => ⟨[], rfl, by simp, Rd.nil _ _⟩
  | succ k ih =>
   intro hk
   obtain ⟨l, hl, hw, hr⟩ := ih (by omega)
   obtain ⟨ad, ecs, ha, hel, hcell, hg⟩ := h5 k (by omega)
   obtain ⟨x, rfl, hx⟩ := step ecs (by rw [hel, hc]) hg
   refine ⟨l ++ [x], by simp [hl], fun y hy => ?_, ?_⟩
   ·rcases List.mem_append.1 hy with hy | hy
    ·exact hw y hy
    ·simp at hy; subst hy; exact hx
   ·have hfl : (l.flatMap φ).length = k * sz := by
     rw [← hl]; clear hl hw hr ih
     induction l with
     | nil => simp
     | cons y l ih => simp [List.flatMap_cons, hφ, ih, Nat.add_mul, Nat.add_comm]
    intro i v hv
    simp only [List.flatMap_append, List.flatMap_cons, List.flatMap_nil, List.append_nil] at hv
    rcases Nat.lt_or_ge i (k * sz) with hi | hi
    ·rw [List.getElem?_append_left (by omega)] at hv
     exact hr i v hv
    ·rw [List.getElem?_append_right (by omega), hfl] at hv
     refine ⟨ad, ha, ?_⟩
     have := hcell (i - k * sz) v hv
     rwa [hc, show k * sz + (i - k * sz) = i by omega] at this
 obtain ⟨l, hl, hw, hr⟩ := key n (Nat.le_refl _)
 exact ⟨a, n, c, l, h1, hr, hl, h2, h3, h4, hz, hw⟩
theorem flatMap_one {α β : Type} (f : α → β) (l : List α) : l.flatMap (fun x => [f x]) = l.map f := by induction l <;> simp_all
theorem Dat.bytes (h : Dat P W t cs) (ht : P.underlying t = some (.slice e)) (he : P.underlying e = some (.int .u8)) (hc : P.cellsOf e = 1) :
  ∃ (a : Option Addr) (n c : Nat) (bs : List (BitVec 8)), cs = [.slice a n c] ∧ Rd W.heap a (byV bs) ∧ bs.length = n ∧ n ≤ c ∧ c < 9223372036854775808 ∧ (a = none → c = 0) ∧ n * P.bytesOf e ≤ 140737488351232 := by
 obtain ⟨a, n, c, l, h1, h2, h3, h4, h5, h6, hz, _⟩ := h.rows (α := BitVec 8) (fun b => [.int .u8 b.toNat]) (fun _ => True) ht hc (fun _ => rfl) (fun ecs _ hg => by
  obtain ⟨n, rfl, hn⟩ := hg.u8 he
  exact ⟨BitVec.ofNat 8 n, by rw [BitVec.toNat_ofNat, Nat.mod_eq_of_lt hn], trivial⟩)
 exact ⟨a, n, c, l, h1, by rwa [flatMap_one] at h2, h3, h4, h5, h6, hz⟩
end
end Go.HW

namespace Go.HW
open Go

section
variable {α β : Type} [DecidableEq α]
def mget (l : List (α × β)) (k : α) : Option β := (l.find? fun x => decide (x.1 = k)).map (·.2)
def mset : List (α × β) → α → β → List (α × β)
 | [], k, v => [(k, v)]
 | x :: l, k, v => if x.1 = k then (k, v) :: l else x :: mset l k v
def mdel (l : List (α × β)) (k : α) : List (α × β) := l.filter fun x => !decide (x.1 = k)
theorem y133 (k : α) : mget ([] : List (α × β)) k = none := rfl
theorem y50 (x : α × β) (l : List (α × β)) (k : α) : mget (x :: l) k = if x.1 = k then some x.2 else mget l k := by
 unfold mget; rw [List.find?_cons]; by_cases h : x.1 = k <;> simp [h]
theorem y159 (l : List (α × β)) (k : α) (v : β) (j : α) : mget (mset l k v) j = if k = j then some v else mget l j := by
 induction l with
 | nil => simp [mset, y50, y133]
 | cons x l ih =>
  by_cases h : x.1 = k
  ·subst h; simp [mset, y50]
   split <;> simp_all
  ·simp only [mset, if_neg h, y50, ih]
   by_cases h2 : x.1 = j
   ·subst h2; simp [Ne.symm h]
   ·simp [h2]
theorem mget_mdel (l : List (α × β)) (k j : α) : mget (mdel l k) j = if k = j then none else mget l j := by
 induction l with
 | nil => simp [mdel, y133]
 | cons x l ih =>
  unfold mdel at ih ⊢
  rw [List.filter_cons]
  by_cases h : x.1 = k
  ·subst h
   simp only [decide_true, Bool.not_true, Bool.false_eq_true, if_false, ih, y50]
   split <;> simp_all
  ·simp only [decide_eq_false h, Bool.not_false, if_true, y50, ih]
   by_cases h2 : x.1 = j
   ·subst h2; simp [Ne.symm h]
   ·simp [h2]
theorem keys_mset (l : List (α × β)) (k : α) (v : β) : (mset l k v).map (·.1) = if k ∈ l.map (·.1) then l.map (·.1) else l.map (·.1) ++ [k] := by
 induction l with
 | nil => simp [mset]
 | cons x l ih =>
  by_cases h : x.1 = k
  ·subst h; simp [mset]
  ·simp only [mset, if_neg h, List.map_cons, ih, List.mem_cons, Ne.symm h, false_or]
   split <;> simp
theorem nodup_mset {l : List (α × β)} (h : (l.map (·.1)).Nodup) (k : α) (v : β) : ((mset l k v).map (·.1)).Nodup := by
 rw [keys_mset]
 split
 ·exact h
 ·rename_i hk
  rw [List.nodup_append]
  exact ⟨h, by simp, fun a ha b hb => by simp at hb; subst hb; rintro rfl; exact hk ha⟩
theorem y145 {l : List (α × β)} {k : α} : mget l k = none ↔ k ∉ l.map (·.1) := by
 induction l with
 | nil => simp [y133]
 | cons x l ih =>
  rw [y50]
  by_cases h : x.1 = k
  ·simp [h]
  ·simp [h, ih, Ne.symm h]
theorem y87 {l : List (α × β)} {k : α} {v : β} (h : mget l k = some v) : (k, v) ∈ l := by
 induction l with
 | nil => simp [y133] at h
 | cons x l ih =>
  rw [y50] at h
  split at h
  ·rename_i hk; cases h; subst hk; simp
  ·exact List.mem_cons_of_mem _ (ih h)
theorem y105 {l : List (α × β)} (hn : (l.map (·.1)).Nodup) {k : α} {v : β} (h : (k, v) ∈ l) : mget l k = some v := by
 induction l with
 | nil => simp at h
 | cons x l ih =>
  rw [y50]
  simp only [List.map_cons, List.nodup_cons] at hn
  rcases List.mem_cons.1 h with rfl | h
  ·simp
  ·rw [if_neg]
   ·exact ih hn.2 h
   ·intro e
    exact hn.1 (List.mem_map.2 ⟨(k, v), h, e.symm⟩)
end

theorem bytes_beq (a b : ByteArray) : (a == b) = decide (a = b) := by
 cases a with | mk x => cases b with | mk y =>
  show (x == y) = _
  by_cases h : x = y
  ·subst h; simp
  ·simp [h]
structure Keys (P : Program) (t : TypeId) {α : Type} [DecidableEq α] (κ : α → Value) : Prop where
 chk : ∀ (b : Bool) (a : α) (K : Unit → Heap → Prop) (h : Heap), K () h → hwp P (Instr.checkKey b 10000 t (κ a)) K h
 find : ∀ (k : α) (es : List MapEntry) (ks : List α), es.map (·.key) = ks.map κ → ∀ (K : Option (Nat × Value) → Heap → Prop) (h : Heap), K ((ks.findIdx? fun x => decide (x = k)).bind fun j => (es[j]?).map fun e => (j, e.val)) h → hwp P (Instr.findKey t (κ k) es) K h
 bits : ∀ a, Instr.sameBits 10000 (κ a) (κ a) = true
theorem findNow_any {α : Type} [DecidableEq α] {κ : α → Value} {d : TypeDesc} (hd : ∀ a b, Instr.sameNow d (κ a) (κ b) = some (decide (a = b))) (k : α) : ∀ (es : List MapEntry) (ks : List α) (i : Nat), es.map (·.key) = ks.map κ →
  Instr.findNow d (κ k) es i = some ((ks.findIdx? fun x => decide (x = k)).bind fun j => (es[j]?).map fun e => (i + j, e.val))
 | [], ks, i, h => by cases ks with | nil => rfl | cons x ks => simp at h
 | e :: es, [], i, h => by simp at h
 | e :: es, x :: ks, i, h => by
  simp only [List.map_cons, List.cons.injEq] at h
  simp only [Instr.findNow, h.1, hd]
  by_cases q : k = x
  ·subst q; simp [List.findIdx?_cons]
  ·have q' : ¬ x = k := fun h => q h.symm
   simp only [decide_eq_false q]
   rw [findNow_any hd k es ks (i + 1) h.2, List.findIdx?_cons, decide_eq_false q']
   cases hf : ks.findIdx? fun x => decide (x = k) with
   | none => simp
   | some j => simp; cases es[j]? <;> simp; omega
theorem Keys.of_now {P : Program} {t : TypeId} {α : Type} [DecidableEq α] {κ : α → Value} {d : TypeDesc} (hu : P.underlying t = some d) (hd : ∀ a b, Instr.sameNow d (κ a) (κ b) = some (decide (a = b)))
  (hc : ∀ (b : Bool) (a : α) (K : Unit → Heap → Prop) (h : Heap), K () h → hwp P (Instr.checkKey b 10000 t (κ a)) K h) (hb : ∀ a, Instr.sameBits 10000 (κ a) (κ a) = true) : Keys P t κ where
 chk := hc
 bits := hb
 find k es ks he K h H := by
  unfold Instr.findKey
  refine (y10 _ _ _ _).2 ((y32 hu).2 ?_)
  rw [findNow_any hd k es ks 0 he]
  simp only [Nat.zero_add]; exact H
theorem Keys.str {P : Program} {t : TypeId} (h : P.underlying t = some .string) : Keys P t Value.string :=
 .of_now h (fun a b => by simp only [Instr.sameNow, bytes_beq]) (fun b a K g k => by
  rw [show (10000 : Nat) = 9999 + 1 from rfl]; unfold Instr.checkKey; exact (y10 _ _ _ _).2 ((y32 h).2 k))
  (fun a => by rw [show (10000 : Nat) = 9999 + 1 from rfl]; simp only [Instr.sameBits, bytes_beq, decide_true])
theorem Keys.int {P : Program} {t : TypeId} {k : IntKind} (h : P.underlying t = some (.int k)) : Keys P t (Value.int k) :=
 .of_now h (fun a b => by simp only [Instr.sameNow, if_true]; by_cases e : a = b <;> simp [e]) (fun b a K g kk => by
  rw [show (10000 : Nat) = 9999 + 1 from rfl]; unfold Instr.checkKey; exact (y10 _ _ _ _).2 ((y32 h).2 kk))
  (fun a => by rw [show (10000 : Nat) = 9999 + 1 from rfl]; simp only [Instr.sameBits, beq_self_eq_true, Bool.and_self])
theorem Keys.plain {P : Program} {t : TypeId} {α : Type} [DecidableEq α] {κ : α → Value} {fs : Array Field} (hu : P.underlying t = some (.struct fs)) (he : ∀ a b, eqv P 6 t (κ a) (κ b) = some (decide (a = b)))
  (hc : ∀ (b : Bool) (a : α), runPure P (Instr.checkKey b 10000 t (κ a)) = some ()) (hb : ∀ a, Instr.sameBits 10000 (κ a) (κ a) = true) : Keys P t κ where
 chk b a K h H := hwp_runPure (hc b a) H
 bits := hb
 find k es ks hes K h H := by
  unfold Instr.findKey
  refine (y10 _ _ _ _).2 ((y32 hu).2 ?_)
  have now : Instr.findNow (.struct fs) (κ k) es 0 = if es = [] then some none else none := by
   cases es with
   | nil => rfl
   | cons e es => simp [Instr.findNow, Instr.sameNow]
  rw [now]
  by_cases e0 : es = []
  ·rw [if_pos e0]
   subst e0
   cases ks with
   | nil => exact H
   | cons x ks => simp at hes
  ·rw [if_neg e0]
   have go : ∀ (es : List MapEntry) (ks : List α) (i : Nat) (K : Option (Nat × Value) → Heap → Prop), es.map (·.key) = ks.map κ → K ((ks.findIdx? fun x => decide (x = k)).bind fun j => (es[j]?).map fun e => (i + j, e.val)) h → hwp P (Instr.findAsking t (κ k) es i) K h := by
    intro es
    induction es with
    | nil => intro ks i K h1 H; cases ks with
     | nil => exact H
     | cons x ks => simp at h1
    | cons e es ih =>
     intro ks i K h1 H
     cases ks with
     | nil => simp at h1
     | cons x ks =>
      simp only [List.map_cons, List.cons.injEq] at h1
      unfold Instr.findAsking
      refine (y10 _ _ _ _).2 ?_
      rw [h1.1]
      refine eqv_ok 6 t (κ k) (κ x) _ (he k x) Op.maxDepth (by decide) _ _ ?_
      by_cases q : k = x
      ·subst q
       simp only [decide_true, if_true]
       show K (some (i, e.val)) h
       simpa [List.findIdx?_cons] using H
      ·have q' : ¬ x = k := fun h => q h.symm
       simp only [decide_eq_false q, Bool.false_eq_true, if_false]
       refine ih ks (i + 1) K h1.2 ?_
       rw [List.findIdx?_cons, decide_eq_false q'] at H
       cases hf : ks.findIdx? fun x => decide (x = k) with
       | none => rw [hf] at H; simpa using H
       | some j =>
        rw [hf] at H
        simp only [Bool.false_eq_true, if_false, Option.map_some, Option.bind_some, List.getElem?_cons_succ] at H ⊢
        rw [show i + 1 + j = i + (j + 1) by omega]; exact H
   refine go es ks 0 K hes ?_
   simpa using H

section
variable {α β : Type} [DecidableEq α] {κ : α → Value} {ν : β → Value} {P : Program} {t kt et : TypeId}
def entsOf (κ : α → Value) (ν : β → Value) (l : List (α × β)) (bs : List Nat) : List MapEntry := List.zipWith (fun x b => ⟨κ x.1, ν x.2, b⟩) l bs
def mp (κ : α → Value) (ν : β → Value) (r : Nat) (l : List (α × β)) : Assn := fun m => ∃ (bs : List Nat) (clock : Nat), (bs.length = l.length ∧ bs.Nodup ∧ (∀ b ∈ bs, b < clock) ∧ (l.map (·.1)).Nodup) ∧ m r = some (.map (entsOf κ ν l bs).toArray clock)
theorem ents_len {l : List (α × β)} {bs : List Nat} (h : bs.length = l.length) : (entsOf κ ν l bs).length = l.length := by simp [entsOf, h]
theorem find_of {k : α} {l : List (α × β)} : (∃ j, ∃ hj : j < l.length, (l.findIdx? fun x => decide (x.1 = k)) = some j ∧ l[j].1 = k ∧ mget l k = some l[j].2 ∧ (∀ v, mset l k v = l.set j (k, v))) ∨ ((l.findIdx? fun x => decide (x.1 = k)) = none ∧ mget l k = none ∧ (∀ v, mset l k v = l ++ [(k, v)])) := by
 induction l with
 | nil => right; simp [y133, mset]
 | cons x l ih =>
  by_cases e : x.1 = k
  ·left; exact ⟨0, by simp, by simp [List.findIdx?_cons, e], by simpa using e, by simp [y50, e], fun v => by simp [mset, e]⟩
  ·rcases ih with ⟨j, hj, h1, h2, h3, h4⟩ | ⟨h1, h2, h3⟩
   ·left; exact ⟨j + 1, by simpa using hj, by simp [List.findIdx?_cons, e, h1], by simpa using h2, by simp [y50, e, h3], fun v => by simp [mset, e, h4]⟩
   ·right; exact ⟨by simp [List.findIdx?_cons, e, h1], by simp [y50, e, h2], fun v => by simp [mset, e, h3]⟩
theorem y180 (Ky : Keys P kt κ) (k : α) {l : List (α × β)} {bs : List Nat} (hb : bs.length = l.length) {K : Option (Nat × Value) → Heap → Prop} {h : Heap}
  (H : K ((l.findIdx? fun x => decide (x.1 = k)).bind fun j => (l[j]?).map fun x => (j, ν x.2)) h) : hwp P (Instr.findKey kt (κ k) (entsOf κ ν l bs)) K h := by
 have hk : ∀ (l : List (α × β)) (bs : List Nat), bs.length = l.length → (entsOf κ ν l bs).map (·.key) = (l.map (·.1)).map κ := by
  intro l
  induction l with
  | nil => intro bs _; rfl
  | cons x l ih => intro bs hb; cases bs with
   | nil => simp at hb
   | cons b bs =>
    have := ih bs (by simpa using hb)
    simp only [entsOf, List.zipWith_cons_cons, List.map_cons] at this ⊢
    rw [this]
 refine Ky.find k _ (l.map (·.1)) (hk l bs hb) K h ?_
 rw [List.findIdx?_map]
 have e : (l.findIdx? ((fun x => decide (x = k)) ∘ fun x => x.1)) = l.findIdx? fun x => decide (x.1 = k) := rfl
 rw [e]
 cases hf : l.findIdx? fun x => decide (x.1 = k) with
 | none => rw [hf] at H; exact H
 | some j =>
  rw [hf] at H
  simp only [Option.bind_some] at H ⊢
  have : (entsOf κ ν l bs)[j]?.map (fun e => (j, e.val)) = (l[j]?).map fun x => (j, ν x.2) := by
   unfold entsOf
   rw [List.getElem?_zipWith]
   cases h1 : l[j]? with
   | none => rfl
   | some x =>
    have hj : j < bs.length := by rw [hb]; exact (List.getElem?_eq_some_iff.1 h1).1
    rw [List.getElem?_eq_getElem hj]; rfl
  rw [this]; exact H
theorem zero_of {e : TypeId} {z : Value} (i : (P.info? e).bind (·.zero) = some z) {K : Value → Heap → Prop} {h : Heap} (H : K z h) : hwp P (Go.zeroValue e) K h := by
 cases hi : P.info? e with
 | none => rw [hi] at i; cases i
 | some inf =>
  rw [hi] at i
  simp only [Option.bind_some] at i
  simp only [Go.zeroValue, Go.typeInfo, program, bind, y106, hwp, hi, pure, i]; exact H
variable {h : Heap} {L : List Assn} {r : Nat} {l : List (α × β)}
theorem Hs.mp_obj (H : Hs h (mp κ ν r l :: L)) : ∃ bs clock, (bs.length = l.length ∧ bs.Nodup ∧ (∀ b ∈ bs, b < clock) ∧ (l.map (·.1)).Nodup) ∧ Hs h (ob r (.map (entsOf κ ν l bs).toArray clock) :: L) := by
 unfold mp at H
 simp only [Hs.ex, Hs.and] at H
 exact H
theorem Hs.mp_mk {bs : List Nat} {clock : Nat} (H : Hs h (ob r (.map (entsOf κ ν l bs).toArray clock) :: L)) (h1 : bs.length = l.length) (h2 : bs.Nodup) (h3 : ∀ b ∈ bs, b < clock) (h4 : (l.map (·.1)).Nodup) : Hs h (mp κ ν r l :: L) := by
 unfold mp; simp only [Hs.ex, Hs.and]; exact ⟨bs, clock, ⟨h1, h2, h3, h4⟩, H⟩
theorem Hs.mp_nodup (H : Hs h (mp κ ν r l :: L)) : (l.map (·.1)).Nodup := by obtain ⟨_, _, ⟨_, _, _, h4⟩, _⟩ := H.mp_obj; exact h4
theorem Hs.mp_new (H : Hs h L) : Hs (h.push (.map #[] 0)) (mp κ ν h.size ([] : List (α × β)) :: L) :=
 (H.push (.map #[] 0)).mp_mk (bs := []) rfl (by simp) (by simp) (by simp)
theorem Hs.lookup2 (H : Hs h (mp κ ν r l :: L)) (hm : P.underlying t = some (.map kt et)) (Ky : Keys P kt κ) {z : Value} (hz : (P.info? et).bind (·.zero) = some z) (k : α) {K : Value → Heap → Prop}
  (kk : K (match mget l k with | some v => .tuple #[ν v, .bool true] | none => .tuple #[z, .bool false]) h) : hwp P (Instr.lookup t (.map (some r)) (κ k) true) K h := by
 obtain ⟨bs, clock, ⟨h1, h2, h3, h4⟩, H⟩ := H.mp_obj
 have hc := Ky.chk
 unfold Instr.lookup
 refine (y10 _ _ _ _).2 ((y32 hm).2 ?_)
 refine (y10 _ _ _ _).2 ?_
 refine ⟨_, H.get, rfl, ?_⟩
 show hwp P (Instr.checkKey _ 10000 kt (κ k) >>= _) K h
 refine (y10 _ _ _ _).2 (hc _ _ _ _ ?_)
 refine (y10 _ _ _ _).2 (y180 Ky k h1 ?_)
 rcases find_of (k := k) (l := l) with ⟨j, hj, f1, f2, f3, f4⟩ | ⟨f1, f2, f3⟩
 ·rw [f3] at kk; rw [f1, Option.bind_some, List.getElem?_eq_getElem hj]; exact kk
 ·rw [f2] at kk; rw [f1]; exact (y10 _ _ _ _).2 (zero_of hz kk)
theorem Hs.lookup1 (H : Hs h (mp κ ν r l :: L)) (hm : P.underlying t = some (.map kt et)) (Ky : Keys P kt κ) {z : Value} (hz : (P.info? et).bind (·.zero) = some z) (k : α) {K : Value → Heap → Prop}
  (kk : K (match mget l k with | some v => ν v | none => z) h) : hwp P (Instr.lookup t (.map (some r)) (κ k) false) K h := by
 obtain ⟨bs, clock, ⟨h1, h2, h3, h4⟩, H⟩ := H.mp_obj
 have hc := Ky.chk
 unfold Instr.lookup
 refine (y10 _ _ _ _).2 ((y32 hm).2 ?_)
 refine (y10 _ _ _ _).2 ?_
 refine ⟨_, H.get, rfl, ?_⟩
 show hwp P (Instr.checkKey _ 10000 kt (κ k) >>= _) K h
 refine (y10 _ _ _ _).2 (hc _ _ _ _ ?_)
 refine (y10 _ _ _ _).2 (y180 Ky k h1 ?_)
 rcases find_of (k := k) (l := l) with ⟨j, hj, f1, f2, f3, f4⟩ | ⟨f1, f2, f3⟩
 ·rw [f3] at kk; rw [f1, Option.bind_some, List.getElem?_eq_getElem hj]; exact kk
 ·rw [f2] at kk; rw [f1]; exact (y10 _ _ _ _).2 (zero_of hz kk)
theorem ents_get {bs : List Nat} (hb : bs.length = l.length) {j : Nat} (hj : j < l.length) : (entsOf κ ν l bs)[j]? = some ⟨κ l[j].1, ν l[j].2, bs[j]⟩ := by
 simp [entsOf, List.getElem?_zipWith, hj, hb]
theorem modify_ents {bs : List Nat} (hb : bs.length = l.length) {j : Nat} (hj : j < l.length) (k : α) (v : β) :
  (entsOf κ ν l bs).toArray.modify j (fun e => { e with key := κ k, val := ν v }) = (entsOf κ ν (l.set j (k, v)) bs).toArray := by
 apply Array.ext_getElem?
 intro i
 rw [Array.getElem?_modify, List.getElem?_toArray, List.getElem?_toArray]
 by_cases hi : j = i
 ·subst hi
  rw [if_pos rfl, ents_get hb hj, ents_get (by simpa using hb) (by simpa using hj)]
  simp
 ·rw [if_neg hi]
  simp [entsOf, List.getElem?_zipWith, List.getElem?_set_ne hi]
theorem Hs.mset (H : Hs h (mp κ ν r l :: L)) (hm : P.underlying t = some (.map kt et)) (Ky : Keys P kt κ) (k : α) (v : β) {x : Value} (hx : x = ν v := by rfl) {K : Heap → Prop}
  (kk : ∀ h', Hs h' (mp κ ν r (HW.mset l k v) :: L) → K h') : hwp P (Instr.mapUpdate t (.map (some r)) (κ k) x) (fun _ => K) h := by
 subst hx
 obtain ⟨bs, clock, ⟨h1, h2, h3, h4⟩, H⟩ := H.mp_obj
 have hc := Ky.chk
 unfold Instr.mapUpdate
 refine (y10 _ _ _ _).2 ((y32 hm).2 ?_)
 refine (y10 _ _ _ _).2 ⟨_, H.get, rfl, ?_⟩
 refine (y10 _ _ _ _).2 (hc _ _ _ _ ?_)
 refine (y10 _ _ _ _).2 (y180 Ky k h1 ?_)
 rcases find_of (k := k) (l := l) with ⟨j, hj, f1, f2, f3, f4⟩ | ⟨f1, f2, f3⟩
 ·rw [f1]; simp only [Option.bind_some, List.getElem?_eq_getElem hj, Option.map_some]
  have hkey : hwp P (Instr.keyThatStays ((((entsOf κ ν l bs).toArray[j]?).map (·.key)).getD (κ k)) (κ k)) (fun v h' => v = κ k ∧ h' = h) h := by
   rw [List.getElem?_toArray, ents_get h1 hj, Option.map_some, Option.getD_some, f2]
   unfold Instr.keyThatStays
   rw [if_pos (Ky.bits k)]; exact ⟨rfl, rfl⟩
  refine (y10 _ _ _ _).2 (y93 _ ?_ hkey)
  rintro _ _ ⟨rfl, rfl⟩
  refine ⟨⟨_, H.get, rfl, rfl⟩, kk _ ?_⟩
  rw [modify_ents h1 hj]
  rw [f4 v]
  refine (H.set _).mp_mk (by simpa using h1) h2 h3 ?_
  rw [← f4 v]; exact nodup_mset h4 k v
 ·rw [f1]
  refine ⟨⟨_, H.get, rfl, rfl⟩, kk _ ?_⟩
  have e : (entsOf κ ν l bs).toArray.push ⟨κ k, ν v, clock⟩ = (entsOf κ ν (l ++ [(k, v)]) (bs ++ [clock])).toArray := by
   apply Array.toList_inj.1
   simp only [entsOf, Array.toList_push]
   rw [List.zipWith_append h1.symm]; simp
  rw [e, f3 v]
  refine (H.set _).mp_mk (by simp [h1]) ?_ ?_ ?_
  ·rw [List.nodup_append]
   exact ⟨h2, by simp, fun a ha b hb => by simp at hb; subst hb; have := h3 a ha; omega⟩
  ·intro b hb
   rcases List.mem_append.1 hb with hb | hb
   ·have := h3 b hb; omega
   ·simp at hb; omega
  ·rw [← f3 v]; exact nodup_mset h4 k v
theorem mdel_erase {k : α} (hn : (l.map (·.1)).Nodup) {j : Nat} (hj : j < l.length) (e : l[j].1 = k) : mdel l k = l.eraseIdx j := by
 induction l generalizing j with
 | nil => simp at hj
 | cons x l ih =>
  simp only [List.map_cons, List.nodup_cons] at hn
  have rest : ∀ (l : List (α × β)), k ∉ l.map (·.1) → mdel l k = l := by
   intro l hl
   unfold mdel
   rw [List.filter_eq_self]
   intro y hy
   have : y.1 ≠ k := fun h => hl (List.mem_map.2 ⟨y, hy, h⟩)
   simp [this]
  cases j with
  | zero =>
   simp only [List.getElem_cons_zero] at e
   have : mdel (x :: l) k = mdel l k := by unfold mdel; rw [List.filter_cons]; simp [e]
   rw [this, rest l (e ▸ hn.1)]; simp
  | succ j =>
   simp only [List.getElem_cons_succ] at e
   have hj' : j < l.length := by simpa using hj
   have hx : x.1 ≠ k := fun h => hn.1 (List.mem_map.2 ⟨l[j], List.getElem_mem hj', by rw [e, h]⟩)
   have : mdel (x :: l) k = x :: mdel l k := by unfold mdel; rw [List.filter_cons]; simp [hx]
   rw [this, ih hn.2 hj' e]; simp
theorem mdel_none {k : α} (h : mget l k = none) : mdel l k = l := by
 unfold mdel
 rw [List.filter_eq_self]
 intro y hy
 have := y145.1 h
 have : y.1 ≠ k := fun h => this (List.mem_map.2 ⟨y, hy, h⟩)
 simp [this]
theorem zip_erase {γ δ ε : Type} (f : γ → δ → ε) : ∀ (l : List γ) (bs : List δ) (j : Nat), bs.length = l.length → (List.zipWith f l bs).eraseIdx j = List.zipWith f (l.eraseIdx j) (bs.eraseIdx j) := by
 intro l
 induction l with
 | nil => intro bs j h; simp
 | cons x l ih =>
  intro bs j h
  cases bs with
  | nil => simp at h
  | cons b bs =>
   cases j with
   | zero => simp
   | succ j => simp only [List.zipWith_cons_cons, List.eraseIdx_cons_succ]; rw [ih bs j (by simpa using h)]
theorem Hs.mdel (H : Hs h (mp κ ν r l :: L)) (hm : P.underlying t = some (.map kt et)) (Ky : Keys P kt κ) (k : α) {t2 ty : TypeId} {K : Value → Heap → Prop}
  (kk : ∀ h', Hs h' (mp κ ν r (HW.mdel l k) :: L) → K (.tuple #[]) h') : hwp P (Builtin.delete_ #[t, t2] ty #[.map (some r), κ k]) K h := by
 obtain ⟨bs, clock, ⟨h1, h2, h3, h4⟩, H⟩ := H.mp_obj
 have hc := Ky.chk
 unfold Builtin.delete_
 refine (y10 _ _ _ _).2 ((y32 hm).2 ?_)
 show hwp P (getObj r >>= _) K h
 refine (y10 _ _ _ _).2 ?_
 refine ⟨_, H.get, rfl, ?_⟩
 show hwp P (Instr.checkKey _ 10000 kt (κ k) >>= _) K h
 refine (y10 _ _ _ _).2 (hc _ _ _ _ ?_)
 refine (y10 _ _ _ _).2 (y180 Ky k h1 ?_)
 rcases find_of (k := k) (l := l) with ⟨j, hj, f1, f2, f3, f4⟩ | ⟨f1, f2, f3⟩
 ·rw [f1]; simp only [Option.bind_some, List.getElem?_eq_getElem hj, Option.map_some]
  refine ⟨⟨_, H.get, rfl, rfl⟩, kk _ ?_⟩
  have e : (entsOf κ ν l bs).toArray.eraseIdxIfInBounds j = (entsOf κ ν (l.eraseIdx j) (bs.eraseIdx j)).toArray := by
   apply Array.toList_inj.1
   rw [Array.eraseIdxIfInBounds, dif_pos (by simpa [ents_len h1] using hj)]
   simp only [Array.toList_eraseIdx, entsOf]
   exact zip_erase _ l bs j h1
  rw [e, mdel_erase h4 hj f2]
  refine (H.set _).mp_mk ?_ (h2.sublist (List.eraseIdx_sublist ..)) (fun b hb => h3 b (List.mem_of_mem_eraseIdx hb)) (h4.sublist (List.Sublist.map _ (List.eraseIdx_sublist ..)))
  rw [List.length_eraseIdx, List.length_eraseIdx, h1]
 ·rw [f1]
  refine ⟨⟨_, H.get, rfl, rfl⟩, kk _ ?_⟩
  rw [mdel_none f2]
  exact (H.set _).mp_mk h1 h2 h3 h4
theorem Hs.mlen (H : Hs h (mp κ ν r l :: L)) (hm : P.underlying t = some (.map kt et)) {ty : TypeId} {K : Value → Heap → Prop} (kk : K (.int .i64 (l.length : Nat)) h) : hwp P (Builtin.len_ #[t] ty #[.map (some r)]) K h := by
 obtain ⟨bs, clock, ⟨h1, h2, h3, h4⟩, H⟩ := H.mp_obj
 unfold Builtin.len_
 refine (y10 _ _ _ _).2 ((y32 hm).2 ?_)
 show hwp P (getObj r >>= _) K h
 refine (y10 _ _ _ _).2 ⟨_, H.get, rfl, ?_⟩
 show K (goInt ((entsOf κ ν l bs).toArray.size : Nat)) h
 have : (entsOf κ ν l bs).toArray.size = l.length := by simp [ents_len h1]
 rw [this]; exact kk
end
end Go.HW

namespace Go.HW
open Go

def val : List Nat → Nat
 | [] => 0
 | x :: l => x + 256 * val l
def nV (l : List Nat) : List Value := l.map fun x : Nat => .int .u8 (x : Int)
theorem nV_len (l : List Nat) : (nV l).length = l.length := by simp [nV]
theorem nV_get {l : List Nat} {i : Nat} (hi : i < l.length) : (nV l)[i]? = some (.int .u8 l[i]) := by simp [nV, hi]
end Go.HW

namespace Go.HW
open Go

def sb (s : ByteArray) : List Nat := s.data.toList.map UInt8.toNat
def st (l : List Nat) : ByteArray := ⟨(l.map UInt8.ofNat).toArray⟩
theorem y116 (s : ByteArray) : (sb s).length = s.size := by rw [sb, List.length_map, Array.length_toList]; rfl
theorem sb_lt {s : ByteArray} {x : Nat} (h : x ∈ sb s) : x < 256 := by
 simp only [sb, List.mem_map] at h; obtain ⟨b, _, rfl⟩ := h; exact b.toNat_lt
theorem sb_inj {s t : ByteArray} (h : sb s = sb t) : s = t := by
 have : s.data.toList = t.data.toList := List.map_inj_right (f := UInt8.toNat) (fun x y e => UInt8.toNat_inj.1 e) |>.1 h
 exact ByteArray.ext (Array.toList_inj.1 this)
theorem strV_nV (s : ByteArray) : (s.data.toList.map fun b => Value.int .u8 (b.toNat : Int)) = nV (sb s) := by simp [nV, sb, Function.comp_def]
theorem sb_get (s : ByteArray) (i : Nat) (hi : i < s.size) : (sb s)[i]'(by rw [y116]; exact hi) = s[i].toNat := by simp [sb]; rfl

section
variable {h : Heap} {L : List Assn}
def rdO (a : Option Addr) (xs : List Value) : Assn := fun m => ∀ i v, xs[i]? = some v → ∃ b off cs t f, a = some ⟨b, off, none⟩ ∧ m b = some (.cells cs t f) ∧ cs[off + i]? = some v
theorem Hs.rdO {a : Option Addr} {xs : List Value} (H : Hs h (HW.rdO a xs :: L)) : Rd h a xs := H.fact fun m k s i v hv => by
 obtain ⟨b, off, cs, t, f, rfl, hm, hc⟩ := k i v hv
 exact ⟨_, rfl, by rw [add_mk]; exact cell_of (s _ _ hm) hc⟩
theorem Gv.rdO {a : Option Addr} {xs : List Value} : Gv (HW.rdO a xs :: L) a xs := fun h H => H.rdO
theorem Hs.s2b {P : Program} {src dst e : TypeId} {s : ByteArray} {K : Value → Heap → Prop} (H : Hs h L) (hs : P.underlying src = some .string) (hd : P.underlying dst = some (.slice e)) (he : P.underlying e = some (.int .u8))
  (kk : ∀ h' a c, s.size ≤ c → Hs h' (HW.rdO (some a) (nV (sb s)) :: L) → K (.slice (some a) s.size c) h') : hwp P (Go.convert src dst (.string s)) K h := by
 unfold Go.convert
 refine (y10 _ _ _ _).2 ((y32 hs).2 ((y10 _ _ _ _).2 ((y32 hd).2 ?_)))
 refine (y10 _ _ _ _).2 ((y32 he).2 ?_)
 show hwp P (Conv.stringToBytes e s) K h
 unfold Conv.stringToBytes
 refine (y10 _ _ _ _).2 ?_
 show ∀ t, _
 intro t
 have hc : s.size ≤ (Question.appendCap s.size 0 e).cut t := by show s.size ≤ s.size + _; omega
 generalize (Question.appendCap s.size 0 e).cut t = c at hc ⊢
 refine (y10 _ _ _ _).2 ?_
 refine (y10 _ _ _ _).2 ?_
 generalize hcs : ((s.data.map fun b => Value.int .u8 (b.toNat : Int)) ++ Array.replicate (c - s.size) (Value.int .u8 0)) = cs
 have hsh : shapeH (h.push (.cells cs e (0, 0))) h.size = some (e, cs.size) := by
  unfold shapeH World.shape? wOf; simp
 show hwp P (markStringish ⟨h.size, 0, none⟩ >>= fun _ => pure (Value.slice (some ⟨h.size, 0, none⟩) s.size c)) K (h.push (.cells cs e (0, 0)))
 refine (y10 _ _ _ _).2 ?_
 unfold markStringish
 refine (y10 _ _ _ _).2 ?_
 show hwp P (match shapeH (h.push (.cells cs e (0, 0))) h.size with | some (_, n) => _ | _ => _) _ _
 rw [hsh]
 show K (.slice (some ⟨h.size, 0, none⟩) s.size c) (freezeH (h.push (.cells cs e (0, 0))) ⟨h.size, cs.size, none⟩ 1)
 have H1 : Hs (h.push (.cells cs e (0, 0))) (ob h.size (.cells cs e (0, 0)) :: L) := H.push _
 have hb : (freezeH (h.push (.cells cs e (0, 0))) ⟨h.size, cs.size, none⟩ 1)[h.size]? = some (.cells cs e (cs.size, cs.size + 1)) := by
  unfold freezeH World.freeze wOf
  rw [if_neg (by decide)]
  show (Array.modify _ _ _)[h.size]? = _
  rw [Array.getElem?_modify, if_pos rfl, get_push, if_pos rfl]; rfl
 have H2 := H1.chg (o' := .cells cs e (cs.size, cs.size + 1)) (fun j hj => freeze_other _ _ _ _ hj) hb
 refine kk _ _ _ hc (H2.mono fun m hm => ?_)
 intro i v hv
 refine ⟨h.size, 0, cs, e, _, rfl, hm, ?_⟩
 rw [← hcs, Nat.zero_add]
 have hi : i < s.size := by rw [← y116, ← nV_len]; exact (List.getElem?_eq_some_iff.1 hv).1
 rw [Array.getElem?_append_left (by rw [Array.size_map]; exact hi)]
 rw [← strV_nV] at hv
 rw [← Array.getElem?_toList, Array.toList_map]; exact hv
theorem hwp_sidx {P : Program} {t : TypeId} {s : ByteArray} {k : IntKind} {i : Nat} {K : Value → Heap → Prop} (ht : P.underlying t = some .string) (hi : i < s.size) (kk : K (.int .u8 ((sb s)[i]'(by rw [y116]; exact hi) : Nat)) h) : hwp P (Instr.index t (.string s) (.int k (i : Int))) K h := by
 unfold Instr.index
 refine (y10 _ _ _ _).2 ?_
 show hwp P (Go.underlying t >>= _) K h
 refine (y10 _ _ _ _).2 ((y32 ht).2 ?_)
 show hwp P (match (if (0 : Int) ≤ (i : Int) then s[(i : Int).toNat]? else none) with | some b => pure (.int .u8 b.toNat) | none => boundsPanic k i s.size .index) K h
 rw [if_pos (Int.natCast_nonneg _), Int.toNat_natCast, getElem?_pos s i hi]
 rw [sb_get s i hi] at kk
 exact kk
end
end Go.HW

namespace Go.HW
open Go
section
variable {h : Heap} {L : List Assn}
theorem Hs.idx_wrs {P : Program} {t e : TypeId} {sz bz n c : Nat} {z : Value} {a : Option Addr} {xs vs : List Value} (E : Elem P t e sz bz z) {k : IntKind} {i : Int} (H : Hs h (own a n c e sz xs :: L)) (h0 : 0 ≤ i) (hi : i < n) (hl : vs.length = sz) (hs : 0 < sz) (hv : ∀ v ∈ vs, oneC v = true) {R : Heap → Prop}
  (K : ∀ h', Hs h' (own a n c e sz (xs.take (i.toNat * sz) ++ vs ++ xs.drop (i.toNat * sz + sz)) :: L) → R h') :
  hwp P (Instr.indexAt t (.slice a n c) (.int k i)) (fun u h1 => ∃ t, u = .pointer (some t) ∧ wrCells t 0 vs R h1) h := by
 have hlen := H.own_len
 have hle := H.own_le
 have hk : (i.toNat + 1) * sz ≤ n * sz := Nat.mul_le_mul_right _ (by omega)
 rw [Nat.add_mul, Nat.one_mul] at hk
 have hk2 : n * sz ≤ c * sz := Nat.mul_le_mul_right _ hle
 obtain ⟨b, off, ys, rfl, hc1, hx1, H1⟩ := H.own_pt (by omega)
 refine hwp_index E h0 hi ⟨_, rfl, ?_⟩
 rw [add_mk]
 refine H1.wrso (off + i.toNat * sz) (fun h' H' => K h' ?_) (by omega) hv
 have hyl : (ys.take (off + i.toNat * sz) ++ vs ++ ys.drop (off + i.toNat * sz + vs.length)).length = ys.length := by simp; omega
 refine H'.pt_own off ?_ ?_ hle (by rw [hyl]; exact hc1)
 ·apply List.ext_getElem?
  intro j
  subst hx1
  simp only [List.getElem?_take, List.getElem?_drop, List.getElem?_append, List.length_append, List.length_take, List.length_drop, hl]
  repeat' split
  all_goals first | (exfalso; omega) | rfl | (congr 1 <;> omega)
 ·simp; omega
theorem Hs.own_none {n c : Nat} {e : TypeId} {sz : Nat} {xs : List Value} (H : Hs h (own none n c e sz xs :: L)) : c = 0 := by
 rcases H.Own.2.2 with ⟨_, h⟩ | ⟨b, off, cs, h, _⟩
 ·exact h
 ·cases h
theorem flat_set {α : Type} {φ : α → List Value} {sz : Nat} (hφ : ∀ x, (φ x).length = sz) (l : List α) (x : α) : ∀ (i : Nat), i < l.length → (l.flatMap φ).take (i * sz) ++ φ x ++ (l.flatMap φ).drop (i * sz + sz) = (l.set i x).flatMap φ := by
 induction l with
 | nil => intro i hi; simp at hi
 | cons y l ih =>
  intro i hi
  cases i with
  | zero =>
   simp only [Nat.zero_mul, List.take_zero, List.nil_append, List.flatMap_cons, List.set_cons_zero, Nat.zero_add]
   rw [List.drop_append_of_le_length (by rw [hφ]; exact Nat.le_refl _), List.drop_of_length_le (by rw [hφ]; exact Nat.le_refl _), List.nil_append]
  | succ i =>
   have := ih i (by simpa using hi)
   simp only [List.flatMap_cons, List.set_cons_succ]
   rw [← this, Nat.add_mul, Nat.one_mul, Nat.add_comm (i * sz) sz, List.take_append, List.drop_append, hφ, List.take_of_length_le (by rw [hφ]; omega), List.drop_of_length_le (by rw [hφ]; omega), List.nil_append]
   simp only [Nat.add_sub_cancel_left, List.append_assoc]
   congr 4; omega
theorem Hs.idx_wrf {α : Type} {φ : α → List Value} {P : Program} {t e : TypeId} {sz bz n c : Nat} {z : Value} {a : Option Addr} {l : List α} (x : α) (E : Elem P t e sz bz z) {k : IntKind} {i : Int} (H : Hs h (own a n c e sz (l.flatMap φ) :: L)) (h0 : 0 ≤ i) (hi : i < n) (hφ : ∀ x, (φ x).length = sz) (hs : 0 < sz) (hv : ∀ v ∈ φ x, oneC v = true) {R : Heap → Prop}
  (K : ∀ h', Hs h' (own a n c e sz ((l.set i.toNat x).flatMap φ) :: L) → R h') :
  hwp P (Instr.indexAt t (.slice a n c) (.int k i)) (fun u h1 => ∃ t, u = .pointer (some t) ∧ wrCells t 0 (φ x) R h1) h := by
 refine H.idx_wrs E h0 hi (hφ x) hs hv fun h' H' => K h' ?_
 have hlen := H.own_len
 have hl := y153 hφ l
 have : l.length = n := Nat.eq_of_mul_eq_mul_right hs (by omega)
 rwa [flat_set hφ l x _ (by omega)] at H'
theorem Hs.add {h' : Heap} {A : Assn} (H : Hs h L) (e : ExtB h.size h h') (m : PM) (hA : A m) (hs : Sub m fun b => h'[b]?) (hf : ∀ b, b < h.size → m b = none) : Hs h' (A :: L) := by
 refine ⟨m, fun b => h[b]?, hA, H, fun b => ?_, hs, fun b o hb => ?_⟩
 ·rcases Nat.lt_or_ge b h.size with h1 | h1
  ·exact .inl (hf b h1)
  ·exact .inr (Array.getElem?_eq_none h1)
 ·have := y138 hb
  show h'[b]? = some o
  rw [e.2 b this]; exact hb
theorem slice_pre {P : Program} {t e : TypeId} {sz bz : Nat} {z : Value} (E : Elem P t e sz bz z) {b off n c m : Nat} {k : IntKind} {K : Value → Heap → Prop} (hm : m ≤ c) (H : K (.slice (some ⟨b, off, none⟩) m c) h) :
  hwp P (Instr.sliceAt t (.slice (some ⟨b, off, none⟩) n c) none (some (.int k (m : Int))) none) K h := by
 refine hwp_sliceSl (lo := none) (hi := some (.int k (m : Int))) E trivial trivial (by simp [bnd]) (by simp [bnd]) (by simp [bnd]; omega) ?_
 have e : (if (c : Int) = bnd none 0 then some (⟨b, off, none⟩ : Addr) else (some (⟨b, off, none⟩ : Addr)).map (·.add ((bnd none 0).toNat * sz))) = some ⟨b, off, none⟩ := by
  split
  ·rfl
  ·rw [Option.map_some, add_mk]; simp [bnd]
 rw [e]
 have e1 : (bnd (some (Value.int k (m : Int))) n).toNat - (bnd none 0).toNat = m := by simp [bnd]
 have e2 : c - (bnd none 0).toNat = c := by simp [bnd]
 rw [e1, e2]; exact H
end
end Go.HW

namespace Go.HW
open Go
structure Arr (P : Program) (t e : TypeId) (n sz : Nat) : Prop where
 und : P.underlying t = some (.array n e)
 info : ∃ i, P.info? e = some i ∧ i.size = sz
theorem Arr.of {P : Program} {t e : TypeId} {n sz : Nat} (u : P.underlying t = some (.array n e)) (i : (P.info? e).map (·.size) = some sz) : Arr P t e n sz := ⟨u, size_of i⟩
section
variable {P : Program} {t e : TypeId} {n sz : Nat} {h : Heap} {L : List Assn}
theorem Arr.sizeOf (A : Arr P t e n sz) {K : Nat → Heap → Prop} (H : K sz h) : hwp P (Go.sizeOf e) K h := by
 obtain ⟨i, hi, hs⟩ := A.info
 unfold Go.sizeOf Go.typeInfo
 refine (y10 _ _ _ _).2 ((y10 _ _ _ _).2 ?_)
 show hwp P (match P.info? e with | some i => pure i | none => _) _ h
 rw [hi]
 show K i.size h
 rw [hs]; exact H
theorem ai (A : Arr P t e n 1) {b j : Nat} {k : IntKind} {i : Int} (hi : j < n) {R : Addr → Heap → Prop} (K : R ⟨b, j, none⟩ h) (hj : i = (j : Int) := by rfl) : hwp P (Instr.indexAt t (.pointer (some ⟨b, 0, none⟩)) (.int k i)) (fun u h1 => ∃ t, u = .pointer (some t) ∧ R t h1) h := by
 subst hj
 refine hwp_indexArr A.und A.info (by omega) (by omega) ⟨_, rfl, ?_⟩
 rw [add_mk, Nat.mul_one, Int.toNat_natCast, Nat.zero_add]; exact K
end
end Go.HW

namespace Go.HW
open Go
abbrev OA := Option Addr
abbrev ON := Option Nat
abbrev VP := Value → Heap → Prop
abbrev EP := Ex → Fr → Heap → Prop
def pthA : Nat → Nat → List Nat → List Nat
 | 0, _, acc => acc
 | f + 1, n, acc => match Nat.ble n 1 with | true => acc | false => pthA f (n / 2) (n % 2 :: acc)
def pth (n : Nat) : List Nat := pthA 400 n []
theorem y20 {A T : Prop} (e : A = T) (H : T) : A := e ▸ H
theorem Jn.of_txt {P : Program} {top : Bool} {c : Code} (x : Ann) {fr : Fr} {K : EP} {h : Heap} {T : Prop} (e : ev P top none c x fr K h = T) (H : T) : Jn P top c fr K h := Jn.of_ev (x := x) (e ▸ H)
theorem Lp.of_txt {P : Program} {top : Bool} {c : Code} (x : Ann) (keep : Nat) {fr : Fr} {K : EP} {h : Heap} {T : Prop} (e : ev P top none c x fr (seqK (fun fr h => Lp P top c (fr.mask keep) K h) K) h = T) (H : T) : Lp P top c fr K h := Lp.of_ev (x := x) (keep := keep) (e ▸ H)
theorem Sc.of_txt {P : Program} {top : Bool} {c : Code} (x : Ann) (keep : List (Nat × Nat)) {o : Option Nat} {fr : Fr} {K : EP} {h : Heap} {T : Prop} (e : ev P top o c x fr (scopeK c (fun l fr h => Sc P top c (some l) (fr.mask (keepOf keep l)) K h) K) h = T) (H : T) : Sc P top c o fr K h := Sc.of_ev (x := x) (keep := keep) (e ▸ H)
theorem y12 {P : Program} {f : FuncId} {fn : Func} {c : Code} {ann : Ann} {args : List Value} {h : Heap} {Q : VP} {T : Prop}
  (hf : P.funcs[f]? = some fn) (hb : fn.body = some c) (hn : hasRange c = false) (e : ev P true none c ann (initFr fn.ntmps args) (bodyK P fn Q) h = T) (H : T) : SpecH P f args h Q := spec_of_ev (ann := ann) hf hb hn (e ▸ H)
theorem spec_of_txtR {P : Program} {f : FuncId} {fn : Func} {c : Code} {ann : Ann} {args : List Value} {h : Heap} {Q : VP} {T : Prop}
  (hf : P.funcs[f]? = some fn) (hb : fn.body = some c) (e : ev P true none c ann (initFr fn.ntmps args) (bodyKR P fn Q) h = T) (H : T) : SpecH P f args h Q := spec_of_evR (ann := ann) hf hb (e ▸ H)
end Go.HW

namespace Go.HW
open Go
def Em (m : PM) : Assn := fun m' => Sub m m'
def nd (m : PM) : PM := fun b => match m b with | some o => if isDef o then none else some o | none => none
theorem nd_sub (m : PM) : Sub (nd m) m := fun b o e => by
 unfold nd at e
 split at e
 ·split at e
  ·cases e
  ·rename_i h _; rw [h]; exact e
 ·cases e
theorem nd_not {m : PM} {b : Nat} {o : Obj} (e : nd m b = some o) : isDef o = false := by
 unfold nd at e
 split at e
 ·split at e
  ·cases e
  ·rename_i hh; cases e; simpa using hh
 ·cases e
theorem Gv.em {L M : List Assn} {m : PM} {a : Option Addr} {xs : List Value} (g : Gv L a xs) (s : Sp L m) : Gv (Em m :: M) a xs := fun h H => by
 obtain ⟨m1, m2, e, _, _, s1, _⟩ := H
 exact g h (Sp.sub s (e.trans s1))
theorem Hs.em {L : List Assn} {h : Heap} (H : Hs h L) : ∃ m, Sp L m ∧ Sub m (fun b => h[b]?) ∧ Hs h [Em m] :=
 ⟨fun b => h[b]?, H, .refl _, fun b => h[b]?, fun _ => none, Sub.refl _, trivial, fun _ => .inr rfl, .refl _, fun _ _ e => nomatch e⟩
theorem Hs.takes {L M : List Assn} {A : Assn} {h h1 h2 : Heap} {m : PM} (H : Hs h1 (A :: Em m :: M)) (s : Sp L m) (s0 : Sub m (fun b => h[b]?)) (t : Takes h1 h2) (k : KeepD h h2) (hA : ∀ m, A m → A (nd m)) : Hs h2 (A :: L) := by
 obtain ⟨m1, m2, a, ⟨m3, m4, e, _, _, s3, _⟩, d, s1, s2⟩ := H
 refine ⟨nd m1, m, hA _ a, s, ((d.sub (e.trans s3)).symm.sub (nd_sub _)).symm, fun b o eb => ?_, fun b o eb => ?_⟩
 ·exact t.get (s1 _ _ (nd_sub _ _ _ eb)) (nd_not eb)
 ·by_cases hd : isDef o = true
  ·exact k b o (s0 _ _ eb) hd
  ·exact t.get (s2 _ _ (s3 _ _ (e _ _ eb))) (by simpa using hd)
theorem Hs.takes0 {L M : List Assn} {h h1 h2 : Heap} {m : PM} (H : Hs h1 (Em m :: M)) (s : Sp L m) (s0 : Sub m (fun b => h[b]?)) (t : Takes h1 h2) (k : KeepD h h2) : Hs h2 L := by
 obtain ⟨m1, m2, e, _, d, s1, _⟩ := H
 refine Sp.sub s fun b o eb => ?_
 by_cases hd : isDef o = true
 ·exact k b o (s0 _ _ eb) hd
 ·exact t.get (s1 _ _ (e _ _ eb)) (by simpa using hd)
theorem nd_pt {b : Nat} {t : TypeId} {xs : List Value} {m : PM} (h : pt b t xs m) : pt b t xs (nd m) := by
 unfold pt ob at *
 unfold nd; rw [h]; rfl
theorem nd_own {a : Option Addr} {n c : Nat} {e : TypeId} {sz : Nat} {xs : List Value} {m : PM} (h : own a n c e sz xs m) : own a n c e sz xs (nd m) := by
 unfold own at *
 refine ⟨h.1, h.2.1, h.2.2.imp id ?_⟩
 rintro ⟨b, off, ys, h1, h2, h3, h4⟩
 refine ⟨b, off, ys, h1, ?_, h3, h4⟩
 unfold nd; rw [h2]; rfl
theorem nd_mp {α β : Type} [DecidableEq α] {κ : α → Value} {ν : β → Value} {r : Nat} {l : List (α × β)} {m : PM} (h : mp κ ν r l m) : mp κ ν r l (nd m) := by
 obtain ⟨bs, clock, h1, h2⟩ := h
 refine ⟨bs, clock, h1, ?_⟩
 unfold nd; rw [h2]; rfl
theorem nd_le {m m' : PM} (s : Sub m m') : Sub (nd m) (nd m') := fun b o e => by
 have h1 := nd_sub _ _ _ e
 have h2 := s _ _ h1
 unfold nd; rw [h2]
 simp only [nd_not e]
 rfl
def Ndc (As : List Assn) : Prop := ∀ A ∈ As, ∀ m, A m → A (nd m)
theorem nd_sp : ∀ {As : List Assn} {m : PM}, Ndc As → Sp As m → Sp As (nd m)
 | [], m, _, _ => trivial
 | A :: As, m, hA, h => by
  obtain ⟨m1, m2, a, l, d, s1, s2⟩ := h
  exact ⟨nd m1, nd m2, hA A (List.mem_cons_self ..) _ a, nd_sp (fun B hB => hA B (List.mem_cons_of_mem _ hB)) l, ((d.sub (nd_sub _)).symm.sub (nd_sub _)).symm, nd_le s1, nd_le s2⟩
theorem Hs.em2 {As L : List Assn} {h : Heap} (H : Hs h (As ++ L)) : ∃ m, Sp L m ∧ Sub m (fun b => h[b]?) ∧ Hs h (As ++ [Em m]) := by
 obtain ⟨m1, m2, a, l, d, s1, s2⟩ := Hs.app.2 H
 exact ⟨m2, l, s2, Hs.app.1 ⟨m1, m2, a, ⟨m2, fun _ => none, Sub.refl _, trivial, fun _ => .inr rfl, .refl _, fun _ _ e => nomatch e⟩, d, s1, s2⟩⟩
theorem Hs.takes2 {As L M : List Assn} {h h1 h2 : Heap} {m : PM} (H : Hs h1 (As ++ Em m :: M)) (s : Sp L m) (s0 : Sub m (fun b => h[b]?)) (t : Takes h1 h2) (k : KeepD h h2) (hA : Ndc As) : Hs h2 (As ++ L) :=
 Hs.app.1 (Hs.takes (Hs.app.2 H) s s0 t k fun m q => nd_sp hA q)
end Go.HW

namespace Go.HW
open Go
section
variable {α β : Type} [DecidableEq α] {κ : α → Value} {ν : β → Value} {h : Heap} {L : List Assn} {P : Program} {r i : Nat} {l done todo : List (α × β)}
def entOf (κ : α → Value) (ν : β → Value) (y : (α × β) × Nat) : MapEntry := ⟨κ y.1.1, ν y.1.2, y.2⟩
theorem ents_zip (l : List (α × β)) (bs : List Nat) : entsOf κ ν l bs = (l.zip bs).map (entOf κ ν) := by
 unfold entsOf
 induction l generalizing bs with
 | nil => rfl
 | cons x l ih => cases bs with
  | nil => rfl
  | cons b bs => simp only [List.zipWith_cons_cons, List.zip_cons_cons, List.map_cons, ih]; rfl
theorem nodup_of {γ δ : Type} {f : γ → δ} {l : List γ} (h : (l.map f).Nodup) : l.Nodup := List.Pairwise.of_map f (fun a b h e => h (congrArg f e)) h
theorem inj_of {γ δ : Type} {f : γ → δ} : ∀ {l : List γ}, (l.map f).Nodup → ∀ y ∈ l, ∀ z ∈ l, f y = f z → y = z
 | [], _, y, hy, _, _, _ => by cases hy
 | x :: l, h, y, hy, z, hz, e => by
  rw [List.map_cons, List.nodup_cons] at h
  rcases List.mem_cons.1 hy with hy1 | hy
  ·rcases List.mem_cons.1 hz with hz1 | hz
   ·rw [hy1, hz1]
   ·exact absurd (List.mem_map_of_mem (f := f) hz) (by rw [← e, hy1]; exact h.1)
  ·rcases List.mem_cons.1 hz with hz1 | hz
   ·exact absurd (List.mem_map_of_mem (f := f) hy) (by rw [e, hz1]; exact h.1)
   ·exact inj_of h.2 y hy z hz e
def rgn (κ : α → Value) (ν : β → Value) (r i : Nat) (l done todo : List (α × β)) : Assn := fun m => ∃ (bs : List Nat) (clock : Nat) (dz tz : List ((α × β) × Nat)),
 (bs.length = l.length ∧ bs.Nodup ∧ (∀ b ∈ bs, b < clock) ∧ (l.map (·.1)).Nodup ∧ tz = (l.zip bs).filter (fun y => !(dz.map (·.2)).contains y.2) ∧ (∀ y ∈ dz, y ∈ l.zip bs) ∧ dz.map (·.1) = done ∧ tz.map (·.1) = todo ∧ (dz.map (·.2)).Nodup) ∧
 Sp [ob r (.map (entsOf κ ν l bs).toArray clock), ob i (.mapIter (some r) clock (dz.map (·.2)).toArray clock)] m
theorem rgn_open : Hs h (rgn κ ν r i l done todo :: L) ↔ ∃ (bs : List Nat) (clock : Nat) (dz tz : List ((α × β) × Nat)),
 (bs.length = l.length ∧ bs.Nodup ∧ (∀ b ∈ bs, b < clock) ∧ (l.map (·.1)).Nodup ∧ tz = (l.zip bs).filter (fun y => !(dz.map (·.2)).contains y.2) ∧ (∀ y ∈ dz, y ∈ l.zip bs) ∧ dz.map (·.1) = done ∧ tz.map (·.1) = todo ∧ (dz.map (·.2)).Nodup) ∧
 Hs h (ob r (.map (entsOf κ ν l bs).toArray clock) :: ob i (.mapIter (some r) clock (dz.map (·.2)).toArray clock) :: L) := by
 unfold rgn
 simp only [Hs.ex, Hs.and, Hs.app, List.cons_append, List.nil_append]
theorem Hs.range (H : Hs h (mp κ ν r l :: L)) {t kt et : TypeId} (hm : P.underlying t = some (.map kt et)) {K : Value → Heap → Prop} (kk : ∀ h' i, Hs h' (rgn κ ν r i l [] l :: L) → K (.pointer (some ⟨i, 0, none⟩)) h') : hwp P (Instr.range t (.map (some r))) K h := by
 obtain ⟨bs, clock, ⟨h1, h2, h3, h4⟩, H⟩ := H.mp_obj
 unfold Instr.range
 refine (y10 _ _ _ _).2 ((y10 _ _ _ _).2 ((y32 hm).2 ?_))
 show hwp P (getObj r >>= _) _ h
 refine (y10 _ _ _ _).2 ⟨_, H.get, rfl, ?_⟩
 show hwp P (newObj _ >>= _) K h
 refine (y10 _ _ _ _).2 ?_
 show K (.pointer (some ⟨h.size, 0, none⟩)) (h.push _)
 refine kk _ _ (rgn_open.2 ⟨bs, clock, [], l.zip bs, ⟨h1, h2, h3, h4, ?_, by simp, rfl, ?_, by simp⟩, (H.push _).m1⟩)
 ·rw [List.filter_eq_self.2]; simp
 ·rw [List.map_fst_zip (by omega)]
theorem Hs.rgn_end (H : Hs h (rgn κ ν r i l done todo :: L)) : Hs h (mp κ ν r l :: L) := by
 obtain ⟨bs, clock, dz, tz, ⟨h1, h2, h3, h4, _⟩, H⟩ := rgn_open.1 H
 exact (H.m1.tl).mp_mk h1 h2 h3 h4
theorem Hs.rgn_perm (H : Hs h (rgn κ ν r i l done todo :: L)) : (done ++ todo).Perm l := by
 obtain ⟨bs, clock, dz, tz, ⟨h1, h2, h3, h4, h5, h6, h7, h8, h9⟩, H⟩ := rgn_open.1 H
 have hz : ((l.zip bs).map (·.2)) = bs := List.map_snd_zip (by omega)
 have hnd : (l.zip bs).Nodup := nodup_of (f := (·.2)) (by rw [hz]; exact h2)
 have hinj : ∀ y ∈ l.zip bs, ∀ z ∈ l.zip bs, y.2 = z.2 → y = z := fun y hy z hz' e => inj_of (f := (·.2)) (by rw [hz]; exact h2) y hy z hz' e
 have hp : (dz ++ tz).Perm (l.zip bs) := by
  have hdn : dz.Nodup := nodup_of (f := (·.2)) h9
  have htn : tz.Nodup := by rw [h5]; exact hnd.filter _
  refine (List.perm_ext_iff_of_nodup (List.nodup_append.2 ⟨hdn, htn, ?_⟩) hnd).2 fun y => ?_
  ·intro y hy z hz' e
   subst e
   rw [h5, List.mem_filter] at hz'
   have := hz'.2
   simp only [Bool.not_eq_true', List.contains_eq_mem, decide_eq_false_iff_not] at this
   exact this (List.mem_map_of_mem hy)
  ·rw [List.mem_append]
   constructor
   ·rintro (hy | hy)
    ·exact h6 y hy
    ·rw [h5, List.mem_filter] at hy; exact hy.1
   ·intro hy
    by_cases hm : y.2 ∈ dz.map (·.2)
    ·obtain ⟨z, hz1, hz2⟩ := List.mem_map.1 hm
     have := hinj z (h6 z hz1) y hy hz2
     exact .inl (this ▸ hz1)
    ·right; rw [h5, List.mem_filter]; exact ⟨hy, by simpa [List.contains_eq_mem] using hm⟩
 have := hp.map (·.1)
 rw [List.map_append, h7, h8, List.map_fst_zip (by omega)] at this
 exact this
theorem hwp_mapNext {n : Nat} {K : Nat → Heap → Prop} (hn : 0 < n) (k : ∀ m, m < n → K m h) : hwp P (choose (.mapNext n)) K h := by
 show (if (Question.mapNext n).forced then hwp P (.pure 0) K h else ∀ t, hwp P (.pure ((Question.mapNext n).cut t)) K h)
 split
 ·exact k 0 hn
 ·exact fun t => k _ (Nat.mod_lt _ hn)
theorem Hs.next (H : Hs h (rgn κ ν r i l done todo :: L)) {ty : TypeId} {K : Value → Heap → Prop} (k0 : todo = [] → K (.tuple #[.bool false]) h)
  (k1 : ∀ h' x todo', todo.Perm (x :: todo') → Hs h' (rgn κ ν r i l (done ++ [x]) todo' :: L) → K (.tuple #[.bool true, κ x.1, ν x.2]) h') : hwp P (Instr.next (.pointer (some ⟨i, 0, none⟩)) false ty) K h := by
 obtain ⟨bs, clock, dz, tz, ⟨h1, h2, h3, h4, h5, h6, h7, h8, h9⟩, H⟩ := rgn_open.1 H
 unfold Instr.next
 show hwp P (getObj i >>= _) K h
 refine (y10 _ _ _ _).2 ⟨_, H.m1.get, rfl, ?_⟩
 show hwp P (getObj r >>= _) K h
 refine (y10 _ _ _ _).2 ⟨_, H.get, rfl, ?_⟩
 have hz : ((l.zip bs).map (·.2)) = bs := List.map_snd_zip (by omega)
 have hlt : ∀ y ∈ l.zip bs, y.2 < clock := fun y hy => h3 _ (by rw [← hz]; exact List.mem_map_of_mem hy)
 have hall : ∀ e ∈ (entsOf κ ν l bs), e.born < clock := by
  rw [ents_zip]; intro e he; obtain ⟨y, hy, rfl⟩ := List.mem_map.1 he; exact hlt y hy
 have test : (!((dz.map (·.2)).toArray).isEmpty && !((entsOf κ ν l bs).toArray).isEmpty && ((entsOf κ ν l bs).toArray).all (·.born ≥ clock)) = false := by
  cases he : entsOf κ ν l bs with
  | nil => simp
  | cons e es =>
   have := hall e (by rw [he]; exact List.mem_cons_self ..)
   simp; intro _ h; omega
 have left : ((entsOf κ ν l bs).toArray.filter fun e => !((dz.map (·.2)).toArray).contains e.born) = (tz.map (entOf κ ν)).toArray := by
  rw [h5, ents_zip]
  simp only [List.filter_toArray, List.filter_map]
  congr 2
  apply List.filter_congr
  intro y hy
  simp [entOf]
  exact decide_eq_decide.2 List.mem_toArray
 have htz : ∀ y ∈ tz, y ∈ l.zip bs := fun y hy => by rw [h5] at hy; exact (List.mem_filter.1 hy).1
 have old : ((tz.map (entOf κ ν)).toArray.filter fun e => decide (e.born < clock)) = (tz.map (entOf κ ν)).toArray := by
  simp only [List.filter_toArray]
  congr 1
  rw [List.filter_eq_self]
  intro e he; obtain ⟨y, hy, rfl⟩ := List.mem_map.1 he
  exact decide_eq_true (hlt y (htz y hy))
 have new : ((tz.map (entOf κ ν)).toArray.filter fun e => decide (e.born ≥ clock)) = #[] := by
  simp only [List.filter_toArray]
  congr 1
  rw [List.filter_eq_nil_iff]
  intro e he; obtain ⟨y, hy, rfl⟩ := List.mem_map.1 he
  have := hlt y (htz y hy)
  simp [entOf]; omega
 have fin : ∀ {y : (α × β) × Nat} {h' : Heap}, y ∈ tz → Hs h' (ob r (.map (entsOf κ ν l bs).toArray clock) :: ob i (.mapIter (some r) clock (((dz.map (·.2)).toArray).push y.2) clock) :: L) → K (.tuple #[.bool true, κ y.1.1, ν y.1.2]) h' := by
  intro y h' hy H'
  have hy2 : y.2 ∉ dz.map (·.2) := by
   rw [h5, List.mem_filter] at hy
   have := hy.2
   simpa [List.contains_eq_mem] using this
  refine k1 h' y.1 ((l.zip bs).filter (fun z => !((dz ++ [y]).map (·.2)).contains z.2) |>.map (·.1)) ?_ (rgn_open.2 ⟨bs, clock, dz ++ [y], _, ⟨h1, h2, h3, h4, rfl, ?_, ?_, rfl, ?_⟩, ?_⟩)
  ·rw [← h8, ← List.map_cons (f := fun z : (α × β) × Nat => z.1)]
   refine List.Perm.map _ ?_
   have hnd : (l.zip bs).Nodup := nodup_of (f := (·.2)) (by rw [hz]; exact h2)
   refine (List.perm_ext_iff_of_nodup (by rw [h5]; exact hnd.filter _) (List.nodup_cons.2 ⟨?_, hnd.filter _⟩)).2 fun z => ?_
   ·rw [List.mem_filter]; simp
   ·rw [List.mem_cons, List.mem_filter]
    constructor
    ·intro hz2
     by_cases e : z = y
     ·exact .inl e
     ·right
      have hz3 := hz2
      rw [h5, List.mem_filter] at hz3
      refine ⟨hz3.1, ?_⟩
      have hne : z.2 ≠ y.2 := fun e2 => e (inj_of (f := (·.2)) (by rw [hz]; exact h2) z hz3.1 y (htz y hy) e2)
      have := hz3.2
      simp only [Bool.not_eq_true', List.contains_eq_mem, decide_eq_false_iff_not] at this ⊢
      simp only [List.map_append, List.mem_append, not_or]
      exact ⟨this, by simpa using hne⟩
    ·rintro (rfl | ⟨hz2, hz3⟩)
     ·exact hy
     ·rw [h5, List.mem_filter]
      refine ⟨hz2, ?_⟩
      simp only [Bool.not_eq_true', List.contains_eq_mem, decide_eq_false_iff_not] at hz3 ⊢
      exact fun q => hz3 (by rw [List.map_append]; exact List.mem_append_left _ q)
  ·intro z hz2
   rcases List.mem_append.1 hz2 with hz2 | hz2
   ·exact h6 z hz2
   ·rw [List.mem_singleton.1 hz2]; exact htz y hy
  ·rw [List.map_append, h7]; rfl
  ·rw [List.map_append]
   exact List.nodup_append.2 ⟨h9, by simp, fun u hu v hv => by rw [List.mem_singleton.1 hv]; exact fun e => hy2 (by have e : u = y.2 := e; rw [← e]; exact hu)⟩
  ·rw [List.map_append]
   simpa using H'
 show hwp P (if (!((dz.map (·.2)).toArray).isEmpty && !((entsOf κ ν l bs).toArray).isEmpty && ((entsOf κ ν l bs).toArray).all (·.born ≥ clock)) = true then _ else _) K h
 rw [test]
 simp only [left, old, new, Bool.false_eq_true, if_false]
 have e1 : (if ((tz.map (entOf κ ν)).toArray).isEmpty = true then #[none] else #[] : Array (Option MapEntry)) ++ ((tz.map (entOf κ ν)).toArray ++ #[]).map some = (if tz = [] then [none] else tz.map fun y => some (entOf κ ν y)).toArray := by
  cases tz with
  | nil => simp
  | cons y ys => simp
 simp only [e1]
 refine (y10 _ _ _ _).2 ?_
 by_cases he : tz = []
 ·simp only [if_pos he]
  have : todo = [] := by rw [← h8, he]; rfl
  exact k0 this
 ·simp only [if_neg he]
  refine hwp_mapNext (by have := List.length_pos_iff.2 he; simpa using this) fun n hn => ?_
  have hn : n < tz.length := by simpa using hn
  have e2 : ((tz.map fun y => some (entOf κ ν y)).toArray)[n]? = some (some (entOf κ ν tz[n])) := by simp [hn]
  rw [e2]
  show hwp P (setObj i _ >>= _) K h
  refine (y10 _ _ _ _).2 ⟨⟨_, H.m1.get, rfl, rfl⟩, ?_⟩
  exact fin (y := tz[n]) (List.getElem_mem hn) ((H.m1.set _).m1)
theorem Hs.entry {x : α × β} (H : Hs h (rgn κ ν r i l (done ++ [x]) todo :: L)) {K : Value → Heap → Prop} (k : K (.tuple #[κ x.1, ν x.2]) h) : hwp P (Instr.entry (.pointer (some ⟨i, 0, none⟩))) K h := by
 obtain ⟨bs, clock, dz, tz, ⟨h1, h2, h3, h4, h5, h6, h7, h8, h9⟩, H⟩ := rgn_open.1 H
 obtain ⟨dy, y, rfl⟩ : ∃ dy y, dz = dy ++ [y] := by
  rcases List.eq_nil_or_concat dz with e | ⟨a, b, e⟩
  ·rw [e] at h7; simp at h7
  ·exact ⟨a, b, by rw [e]; simp⟩
 have hxy : y.1 = x := by
  rw [List.map_append] at h7
  have := List.append_inj_right' h7 rfl
  simpa using this
 unfold Instr.entry
 show hwp P (getObj i >>= _) K h
 refine (y10 _ _ _ _).2 ⟨_, H.m1.get, rfl, ?_⟩
 have eb : ((dy ++ [y]).map (·.2)).toArray.back? = some y.2 := by simp
 have hz : ((l.zip bs).map (·.2)) = bs := List.map_snd_zip (by omega)
 have hf : (entsOf κ ν l bs).toArray.find? (fun e => e.born == y.2) = some (entOf κ ν y) := by
  rw [ents_zip]
  simp only [List.find?_toArray, List.find?_map]
  have hy := h6 y (by simp)
  have : (l.zip bs).find? ((fun e => e.born == y.2) ∘ entOf κ ν) = some y := by
   cases hq : (l.zip bs).find? ((fun e => e.born == y.2) ∘ entOf κ ν) with
   | none =>
    have := List.find?_eq_none.1 hq y hy
    simp [entOf] at this
   | some z =>
    have h10 := List.find?_some hq
    have h11 := List.mem_of_find?_eq_some hq
    have : z.2 = y.2 := by simpa [entOf] using h10
    rw [inj_of (f := (·.2)) (by rw [hz]; exact h2) z h11 y hy this]
  rw [this]; rfl
 simp only [hwp, eb]
 show hwp P (getObj r >>= _) K h
 refine (y10 _ _ _ _).2 ⟨_, H.get, rfl, ?_⟩
 show hwp P (if (clock != clock) = true then _ else _) K h
 rw [if_neg (by simp)]
 show hwp P (match (entsOf κ ν l bs).toArray.find? (fun e => e.born == y.2) with | some e => pure (.tuple #[e.key, e.val]) | none => _) K h
 rw [hf]
 subst hxy
 exact k
end
end Go.HW

namespace Go.HW
open Go
section
variable {h : Heap} {L : List Assn}
theorem cutS {P : Program} {t e : TypeId} {sz bz : Nat} {z : Value} (E : Elem P t e sz bz z) {a : Option Addr} {n c i j : Nat} {xs : List Value} {lo hi : Option Value} {K : Value → Heap → Prop} (hr : Gv L a xs) (hn : xs.length = n * sz) (hnc : n ≤ c) (hn0 : a = none → c = 0) (hij : i ≤ j) (hj : j ≤ n) (hlo : bnd lo 0 = (i : Int)) (hhi : bnd hi (n : Int) = (j : Int))
  (H : ∀ a' c', Gv L a' ((xs.drop (i * sz)).take ((j - i) * sz)) → (a' = none → j - i = 0) → j - i ≤ c' → (a' = none → c' = 0) → K (.slice a' (j - i) c') h) (il : isInt lo := by trivial) (ih : isInt hi := by trivial) : hwp P (Instr.sliceAt t (.slice a n c) lo hi none) K h := by
 refine hwp_sliceSl (lo := lo) (hi := hi) E il ih (by omega) (by omega) (by omega) ?_
 have e1 : (bnd hi (n : Int)).toNat - (bnd lo 0).toNat = j - i := by omega
 have e2 : c - (bnd lo 0).toNat = c - i := by omega
 have e3 : (bnd lo 0).toNat = i := by omega
 rw [e1, e2, e3]
 have en : ∀ x : Option Addr, x = (if (c : Int) = bnd lo 0 then a else a.map (·.add (i * sz))) → x = none → c = 0 := by
  intro x hx hx0
  rw [hx0] at hx
  split at hx
  ·exact hn0 hx.symm
  ·cases a with
   | none => exact hn0 rfl
   | some ad => simp at hx
 refine H _ _ ?_ (fun h0 => by have := en _ rfl h0; omega) (by omega) (fun h0 => by have := en _ rfl h0; omega)
 by_cases hc : (c : Int) = bnd lo 0
 ·have : c = i := by omega
  rw [show j - i = 0 by omega, Nat.zero_mul, List.take_zero]; exact fun h _ => Rd.nil h _
 ·rw [if_neg hc]
  refine fun h2 H2 => (hr h2 H2).sub _ fun q v hv => ?_
  simp only [List.getElem?_take, List.getElem?_drop] at hv ⊢
  split at hv
  ·exact hv
  ·simp at hv
theorem flat_cut {α : Type} {φ : α → List Value} {sz : Nat} (hφ : ∀ x, (φ x).length = sz) (l : List α) (i j : Nat) : ((l.flatMap φ).drop (i * sz)).take (j * sz) = ((l.drop i).take j).flatMap φ := by
 have hd : ∀ (l : List α) (i : Nat), (l.flatMap φ).drop (i * sz) = (l.drop i).flatMap φ := by
  intro l
  induction l with
  | nil => intro i; simp
  | cons x l ih =>
   intro i
   cases i with
   | zero => simp
   | succ i =>
    rw [List.flatMap_cons, List.drop_succ_cons, ← ih i, List.drop_append, hφ, List.drop_of_length_le (by rw [hφ, Nat.add_mul]; omega), List.nil_append]
    congr 1; rw [Nat.add_mul]; omega
 have ht : ∀ (l : List α) (j : Nat), (l.flatMap φ).take (j * sz) = (l.take j).flatMap φ := by
  intro l
  induction l with
  | nil => intro j; simp
  | cons x l ih =>
   intro j
   cases j with
   | zero => simp
   | succ j =>
    rw [List.flatMap_cons, List.take_succ_cons, List.flatMap_cons, ← ih j, List.take_append, hφ, List.take_of_length_le (by rw [hφ, Nat.add_mul]; omega)]
    congr 2; rw [Nat.add_mul]; omega
 rw [hd, ht]
theorem Hs.idx_at {P : Program} {t e : TypeId} {sz bz : Nat} {z : Value} (E : Elem P t e sz bz z) {a : Option Addr} {n c : Nat} {k : IntKind} {i : Int} {xs : List Value} (H : Hs h (HW.own a n c e sz xs :: L)) (hs : 0 < sz) (h0 : 0 ≤ i) (hi : i < n) {R : Addr → Heap → Prop} (K : ∀ b off, a = some ⟨b, off, none⟩ → R ⟨b, off + i.toNat * sz, none⟩ h) :
  hwp P (Instr.indexAt t (.slice a n c) (.int k i)) (fun u h1 => ∃ t, u = .pointer (some t) ∧ R t h1) h := by
 have hle := H.own_le
 have hpos : 0 < c * sz := Nat.mul_pos (by omega) hs
 obtain ⟨b, off, ys, rfl, _, _, _⟩ := H.own_pt (by omega)
 refine hwp_index E h0 hi ⟨_, rfl, ?_⟩
 rw [add_mk]
 exact K b off rfl
theorem Hs.own_rdc {α : Type} {φ : α → List Value} {e : TypeId} {sz n c b off i : Nat} {l : List α} {x : α} (H : Hs h (HW.own (some ⟨b, off, none⟩) n c e sz (l.flatMap φ) :: L)) (hφ : ∀ x, (φ x).length = sz) (hx : l[i]? = some x) : rdCells h ⟨b, off + i * sz, none⟩ 0 (φ x) := by
 have hg := flat_get hφ hx
 have key : ∀ (ws : List Value) (j0 : Nat), (∀ (j : Nat) v, ws[j]? = some v → (φ x)[j0 + j]? = some v) → rdCells h ⟨b, off + i * sz, none⟩ j0 ws := by
  intro ws
  induction ws with
  | nil => exact fun _ _ => trivial
  | cons w ws ih =>
   intro j0 hw
   refine ⟨?_, ih (j0 + 1) fun j v hj => ?_⟩
   ·have := H.rd.cell (hg j0 w (by have := hw 0 w rfl; simpa using this))
    rw [add_mk] at this ⊢
    rw [Nat.add_assoc]; exact this
   ·have := hw (j + 1) v (by simpa using hj)
    rwa [show j0 + (j + 1) = j0 + 1 + j by omega] at this
 exact key _ 0 fun j v hj => by simpa using hj
end
end Go.HW

namespace Go.HW
open Go
section
variable {α β : Type} [DecidableEq α] {A : β → Assn} {l : List (α × β)} {h : Heap} {L : List Assn}
def fam (A : β → Assn) (l : List (α × β)) : Assn := Sp (l.map fun x => A x.2)
theorem Hs.spl {B : Assn} {As : List Assn} : Hs h (Sp (B :: As) :: L) ↔ Hs h (B :: Sp As :: L) := by
 constructor
 ·intro H
  have H := Hs.app.1 H
  exact H.mono_tl fun m s => Sp.app.1 s
 ·intro H
  exact Hs.app.2 (H.mono_tl fun m s => Sp.app.2 s)
theorem Hs.spp {As Bs : List Assn} (p : As.Perm Bs) (H : Hs h (Sp As :: L)) : Hs h (Sp Bs :: L) := H.mono fun m s => Sp.perm p s
theorem mget_perm {k : α} {x : β} (hn : (l.map (·.1)).Nodup) (e : mget l k = some x) : l.Perm ((k, x) :: mdel l k) := by
 induction l with
 | nil => simp [y133] at e
 | cons y l ih =>
  rw [List.map_cons, List.nodup_cons] at hn
  rw [y50] at e
  by_cases hy : y.1 = k
  ·rw [if_pos hy] at e
   cases e
   have : mdel (y :: l) k = l := by
    unfold mdel
    rw [List.filter_cons, if_neg (by simp [hy])]
    rw [List.filter_eq_self]
    intro z hz
    have : z.1 ≠ k := fun q => hn.1 (by rw [hy, ← q]; exact List.mem_map_of_mem hz)
    simp [this]
   rw [this, ← hy]
  ·rw [if_neg hy] at e
   have : mdel (y :: l) k = y :: mdel l k := by unfold mdel; rw [List.filter_cons, if_pos (by simp [hy])]
   rw [this]
   exact ((ih hn.2 e).cons y).trans (List.Perm.swap ..)
theorem mset_mdel_perm {k : α} {x : β} (hn : (l.map (·.1)).Nodup) : (mset l k x).Perm ((k, x) :: mdel l k) := by
 induction l with
 | nil => simp [mset, mdel]
 | cons y l ih =>
  rw [List.map_cons, List.nodup_cons] at hn
  by_cases hy : y.1 = k
  ·have : mdel (y :: l) k = l := by
    unfold mdel
    rw [List.filter_cons, if_neg (by simp [hy])]
    rw [List.filter_eq_self]
    intro z hz
    have : z.1 ≠ k := fun q => hn.1 (by rw [hy, ← q]; exact List.mem_map_of_mem hz)
    simp [this]
   rw [mset, if_pos hy, this]
  ·have : mdel (y :: l) k = y :: mdel l k := by unfold mdel; rw [List.filter_cons, if_pos (by simp [hy])]
   rw [mset, if_neg hy, this]
   exact ((ih hn.2).cons y).trans (List.Perm.swap ..)
theorem Hs.fam_take {k : α} {x : β} (H : Hs h (fam A l :: L)) (hn : (l.map (·.1)).Nodup) (e : mget l k = some x) : Hs h (A x :: fam A (HW.mdel l k) :: L) :=
 Hs.spl.1 (H.spp (by simpa using (mget_perm hn e).map fun x => A x.2))
theorem Hs.fam_put {k : α} {x : β} (H : Hs h (A x :: fam A (HW.mdel l k) :: L)) (hn : (l.map (·.1)).Nodup) : Hs h (fam A (HW.mset l k x) :: L) :=
 (Hs.spl.2 H).spp (by simpa using ((mset_mdel_perm (k := k) (x := x) hn).map fun x => A x.2).symm)
theorem Hs.fam_back {k : α} {x : β} (H : Hs h (A x :: fam A (HW.mdel l k) :: L)) (hn : (l.map (·.1)).Nodup) (e : mget l k = some x) : Hs h (fam A l :: L) :=
 (Hs.spl.2 H).spp (by simpa using ((mget_perm hn e).map fun x => A x.2).symm)
theorem Hs.fam_new (H : Hs h L) : Hs h (fam A ([] : List (α × β)) :: L) := ⟨fun _ => none, fun b => h[b]?, trivial, H, fun _ => .inl rfl, (fun _ _ e => nomatch e), .refl _⟩
end
end Go.HW

namespace Go.HW
open Go
section
variable {α β : Type} [DecidableEq α] {κ : α → Value} {ν : β → Value} {h : Heap} {L : List Assn} {P : Program} {r i : Nat} {l : List (α × β)} {told : List α} {t kt et : TypeId}
structure RgC (l : List (α × β)) (bs : List Nat) (clock : Nat) (sn : List Nat) (told : List α) : Prop where
 len : bs.length = l.length
 nd : bs.Nodup
 lt : ∀ b ∈ bs, b < clock
 keys : (l.map (·.1)).Nodup
 seen : ∀ y ∈ l.zip bs, (y.2 ∈ sn ↔ y.1.1 ∈ told)
 last : ∀ k, told.getLast? = some k → ∀ y ∈ l.zip bs, y.1.1 = k → sn.getLast? = some y.2
 some : told ≠ [] → sn ≠ []
def rgs (κ : α → Value) (ν : β → Value) (r i : Nat) (l : List (α × β)) (told : List α) : Assn := fun m => ∃ (bs : List Nat) (clock : Nat) (sn : List Nat), RgC l bs clock sn told ∧
 Sp [ob r (.map (entsOf κ ν l bs).toArray clock), ob i (.mapIter (some r) clock sn.toArray clock)] m
theorem y164 : Hs h (rgs κ ν r i l told :: L) ↔ ∃ (bs : List Nat) (clock : Nat) (sn : List Nat), RgC l bs clock sn told ∧ Hs h (ob r (.map (entsOf κ ν l bs).toArray clock) :: ob i (.mapIter (some r) clock sn.toArray clock) :: L) := by
 unfold rgs
 simp only [Hs.ex, Hs.and, Hs.app, List.cons_append, List.nil_append]
theorem Hs.ranges (H : Hs h (mp κ ν r l :: L)) (hm : P.underlying t = some (.map kt et)) {K : Value → Heap → Prop} (kk : ∀ h' i, Hs h' (rgs κ ν r i l [] :: L) → K (.pointer (some ⟨i, 0, none⟩)) h') : hwp P (Instr.range t (.map (some r))) K h := by
 obtain ⟨bs, clock, ⟨h1, h2, h3, h4⟩, H⟩ := H.mp_obj
 unfold Instr.range
 refine (y10 _ _ _ _).2 ((y10 _ _ _ _).2 ((y32 hm).2 ?_))
 show hwp P (getObj r >>= _) _ h
 refine (y10 _ _ _ _).2 ⟨_, H.get, rfl, ?_⟩
 show hwp P (newObj _ >>= _) K h
 refine (y10 _ _ _ _).2 ?_
 show K (.pointer (some ⟨h.size, 0, none⟩)) (h.push _)
 exact kk _ _ (y164.2 ⟨bs, clock, [], ⟨h1, h2, h3, h4, fun y hy => by simp, fun k hk => by simp at hk, fun h => absurd rfl h⟩, (H.push _).m1⟩)
theorem Hs.rgs_mp (H : Hs h (rgs κ ν r i l told :: L)) : Hs h (mp κ ν r l :: L) := by
 obtain ⟨bs, clock, sn, c, H⟩ := y164.1 H
 exact (H.m1.tl).mp_mk c.len c.nd c.lt c.keys
theorem Hs.rgs_nodup (H : Hs h (rgs κ ν r i l told :: L)) : (l.map (·.1)).Nodup := H.rgs_mp.mp_nodup
theorem Hs.nexts (H : Hs h (rgs κ ν r i l told :: L)) {ty : TypeId} {K : Value → Heap → Prop} (k0 : (∀ x ∈ l, x.1 ∈ told) → K (.tuple #[.bool false]) h)
  (k1 : ∀ h' x, x ∈ l → x.1 ∉ told → Hs h' (rgs κ ν r i l (told ++ [x.1]) :: L) → K (.tuple #[.bool true, κ x.1, ν x.2]) h') : hwp P (Instr.next (.pointer (some ⟨i, 0, none⟩)) false ty) K h := by
 obtain ⟨bs, clock, sn, c, H⟩ := y164.1 H
 unfold Instr.next
 show hwp P (getObj i >>= _) K h
 refine (y10 _ _ _ _).2 ⟨_, H.m1.get, rfl, ?_⟩
 show hwp P (getObj r >>= _) K h
 refine (y10 _ _ _ _).2 ⟨_, H.get, rfl, ?_⟩
 have hl1 := c.len
 have hz : ((l.zip bs).map (·.2)) = bs := List.map_snd_zip (by omega)
 have hz1 : ((l.zip bs).map (·.1)) = l := List.map_fst_zip (by omega)
 have hlt : ∀ y ∈ l.zip bs, y.2 < clock := fun y hy => c.lt _ (by rw [← hz]; exact List.mem_map_of_mem hy)
 have hall : ∀ e ∈ (entsOf κ ν l bs), e.born < clock := by
  rw [ents_zip]; intro e he; obtain ⟨y, hy, rfl⟩ := List.mem_map.1 he; exact hlt y hy
 have test : (!(sn.toArray).isEmpty && !((entsOf κ ν l bs).toArray).isEmpty && ((entsOf κ ν l bs).toArray).all (·.born ≥ clock)) = false := by
  cases he : entsOf κ ν l bs with
  | nil => simp
  | cons e es =>
   have := hall e (by rw [he]; exact List.mem_cons_self ..)
   simp; intro _ h; omega
 obtain ⟨tz, htz⟩ : ∃ tz, tz = (l.zip bs).filter (fun y => !(sn).contains y.2) := ⟨_, rfl⟩
 have left : ((entsOf κ ν l bs).toArray.filter fun e => !(sn.toArray).contains e.born) = (tz.map (entOf κ ν)).toArray := by
  rw [htz, ents_zip]
  simp only [List.filter_toArray, List.filter_map]
  congr 2
  apply List.filter_congr
  intro y hy
  simp [entOf]
  exact decide_eq_decide.2 Iff.rfl
 have hmem : ∀ y ∈ tz, y ∈ l.zip bs ∧ y.2 ∉ sn := fun y hy => by
  rw [htz] at hy
  have := List.mem_filter.1 hy
  exact ⟨this.1, by simpa [List.contains_eq_mem] using this.2⟩
 have old : ((tz.map (entOf κ ν)).toArray.filter fun e => decide (e.born < clock)) = (tz.map (entOf κ ν)).toArray := by
  simp only [List.filter_toArray]
  congr 1
  rw [List.filter_eq_self]
  intro e he; obtain ⟨y, hy, rfl⟩ := List.mem_map.1 he
  exact decide_eq_true (hlt y (hmem y hy).1)
 have new : ((tz.map (entOf κ ν)).toArray.filter fun e => decide (e.born ≥ clock)) = #[] := by
  simp only [List.filter_toArray]
  congr 1
  rw [List.filter_eq_nil_iff]
  intro e he; obtain ⟨y, hy, rfl⟩ := List.mem_map.1 he
  have := hlt y (hmem y hy).1
  simp [entOf]; omega
 have key_inj : ∀ y ∈ l.zip bs, ∀ z ∈ l.zip bs, y.1.1 = z.1.1 → y = z := by
  refine inj_of (f := fun y : (α × β) × Nat => y.1.1) ?_
  have : (l.zip bs).map (fun y => y.1.1) = l.map (·.1) := by rw [← hz1]; simp [Function.comp_def]; rw [hz1]
  rw [this]; exact c.keys
 have st_inj : ∀ y ∈ l.zip bs, ∀ z ∈ l.zip bs, y.2 = z.2 → y = z := inj_of (f := fun y : (α × β) × Nat => y.2) (by rw [hz]; exact c.nd)
 have fin : ∀ {y : (α × β) × Nat} {h' : Heap}, y ∈ tz → Hs h' (ob r (.map (entsOf κ ν l bs).toArray clock) :: ob i (.mapIter (some r) clock ((sn.toArray).push y.2) clock) :: L) → K (.tuple #[.bool true, κ y.1.1, ν y.1.2]) h' := by
  intro y h' hy H'
  obtain ⟨hy1, hy2⟩ := hmem y hy
  refine k1 h' y.1 (by rw [← hz1]; exact List.mem_map_of_mem hy1) (fun q => hy2 ((c.seen y hy1).2 q)) (y164.2 ⟨bs, clock, sn ++ [y.2], ⟨c.len, c.nd, c.lt, c.keys, fun z hz' => ?_, fun k hk z hz' e => ?_, fun _ => by simp⟩, by simpa using H'⟩)
  ·rw [List.mem_append, List.mem_append, c.seen z hz', List.mem_singleton, List.mem_singleton]
   exact ⟨fun q => q.imp id fun e => by rw [st_inj z hz' y hy1 e], fun q => q.imp id fun e => by rw [key_inj z hz' y hy1 e]⟩
  ·rw [List.getLast?_concat, Option.some.injEq] at hk
   rw [List.getLast?_concat, key_inj z hz' y hy1 (e.trans hk.symm)]
 show hwp P (if (!(sn.toArray).isEmpty && !((entsOf κ ν l bs).toArray).isEmpty && ((entsOf κ ν l bs).toArray).all (·.born ≥ clock)) = true then _ else _) K h
 rw [test]
 simp only [left, old, new, Bool.false_eq_true, if_false]
 have e1 : (if ((tz.map (entOf κ ν)).toArray).isEmpty = true then #[none] else #[] : Array (Option MapEntry)) ++ ((tz.map (entOf κ ν)).toArray ++ #[]).map some = (if tz = [] then [none] else tz.map fun y => some (entOf κ ν y)).toArray := by
  cases tz with
  | nil => simp
  | cons y ys => simp
 simp only [e1]
 refine (y10 _ _ _ _).2 ?_
 by_cases he : tz = []
 ·simp only [if_pos he]
  refine k0 fun x hx => ?_
  rw [← hz1] at hx
  obtain ⟨y, hy, rfl⟩ := List.mem_map.1 hx
  rw [← c.seen y hy]
  have := List.filter_eq_nil_iff.1 (htz.symm.trans he) y hy
  simpa [List.contains_eq_mem] using this
 ·simp only [if_neg he]
  refine hwp_mapNext (by have := List.length_pos_iff.2 he; simpa using this) fun n hn => ?_
  have hn : n < tz.length := by simpa using hn
  have e2 : ((tz.map fun y => some (entOf κ ν y)).toArray)[n]? = some (some (entOf κ ν tz[n])) := by simp [hn]
  rw [e2]
  show hwp P (setObj i _ >>= _) K h
  refine (y10 _ _ _ _).2 ⟨⟨_, H.m1.get, rfl, rfl⟩, ?_⟩
  exact fin (y := tz[n]) (List.getElem_mem hn) ((H.m1.set _).m1)
theorem Hs.entrys {k : α} {v : β} (H : Hs h (rgs κ ν r i l (told ++ [k]) :: L)) (hk : mget l k = some v) {K : Value → Heap → Prop} (kk : K (.tuple #[κ k, ν v]) h) : hwp P (Instr.entry (.pointer (some ⟨i, 0, none⟩))) K h := by
 obtain ⟨bs, clock, sn, c, H⟩ := y164.1 H
 have hl1 := c.len
 have hz : ((l.zip bs).map (·.2)) = bs := List.map_snd_zip (by omega)
 have hz1 : ((l.zip bs).map (·.1)) = l := List.map_fst_zip (by omega)
 have hm := y87 hk
 rw [← hz1] at hm
 obtain ⟨y, hy, e⟩ := List.mem_map.1 hm
 have hlast := c.last k (by simp) y hy (by rw [e])
 unfold Instr.entry
 show hwp P (getObj i >>= _) K h
 refine (y10 _ _ _ _).2 ⟨_, H.m1.get, rfl, ?_⟩
 have eb : (sn.toArray).back? = some y.2 := by rw [← hlast]; simp
 have hf : (entsOf κ ν l bs).toArray.find? (fun e => e.born == y.2) = some (entOf κ ν y) := by
  rw [ents_zip]
  simp only [List.find?_toArray, List.find?_map]
  have : (l.zip bs).find? ((fun e => e.born == y.2) ∘ entOf κ ν) = some y := by
   cases hq : (l.zip bs).find? ((fun e => e.born == y.2) ∘ entOf κ ν) with
   | none =>
    have := List.find?_eq_none.1 hq y hy
    simp [entOf] at this
   | some z =>
    have h10 := List.find?_some hq
    have h11 := List.mem_of_find?_eq_some hq
    have : z.2 = y.2 := by simpa [entOf] using h10
    rw [inj_of (f := (·.2)) (by rw [hz]; exact c.nd) z h11 y hy this]
  rw [this]; rfl
 simp only [hwp, eb]
 show hwp P (getObj r >>= _) K h
 refine (y10 _ _ _ _).2 ⟨_, H.get, rfl, ?_⟩
 show hwp P (if (clock != clock) = true then _ else _) K h
 rw [if_neg (by simp)]
 show hwp P (match (entsOf κ ν l bs).toArray.find? (fun e => e.born == y.2) with | some e => pure (.tuple #[e.key, e.val]) | none => _) K h
 rw [hf]
 show K (.tuple #[κ y.1.1, ν y.1.2]) h
 rw [e]; exact kk
theorem zip_set {γ δ : Type} : ∀ (l : List γ) (bs : List δ) (j : Nat) (x : γ), (l.set j x).zip bs = (l.zip bs).mapIdx fun i y => if i = j then (x, y.2) else y
 | [], bs, j, x => by simp
 | a :: l, [], j, x => by simp
 | a :: l, b :: bs, j, x => by
  cases j with
  | zero => simp [List.mapIdx_cons, Function.comp_def]; apply List.ext_getElem <;> simp
  | succ j => simp [List.mapIdx_cons, Function.comp_def, zip_set l bs j x]
theorem Hs.msets (H : Hs h (rgs κ ν r i l told :: L)) (hm : P.underlying t = some (.map kt et)) (Ky : Keys P kt κ) (k : α) (v : β) (hk : mget l k ≠ none) {x : Value} (hx : x = ν v := by rfl) {K : Heap → Prop}
  (kk : ∀ h', Hs h' (rgs κ ν r i (HW.mset l k v) told :: L) → K h') : hwp P (Instr.mapUpdate t (.map (some r)) (κ k) x) (fun _ => K) h := by
 subst hx
 obtain ⟨bs, clock, sn, c, H⟩ := y164.1 H
 have hc := Ky.chk
 unfold Instr.mapUpdate
 refine (y10 _ _ _ _).2 ((y32 hm).2 ?_)
 refine (y10 _ _ _ _).2 ⟨_, H.get, rfl, ?_⟩
 refine (y10 _ _ _ _).2 (hc _ _ _ _ ?_)
 refine (y10 _ _ _ _).2 (y180 Ky k c.len ?_)
 rcases find_of (k := k) (l := l) with ⟨j, hj, f1, f2, f3, f4⟩ | ⟨f1, f2, f3⟩
 ·rw [f1]; simp only [Option.bind_some, List.getElem?_eq_getElem hj, Option.map_some]
  have hkey : hwp P (Instr.keyThatStays ((((entsOf κ ν l bs).toArray[j]?).map (·.key)).getD (κ k)) (κ k)) (fun v h' => v = κ k ∧ h' = h) h := by
   rw [List.getElem?_toArray, ents_get c.len hj, Option.map_some, Option.getD_some, f2]
   unfold Instr.keyThatStays
   rw [if_pos (Ky.bits k)]; exact ⟨rfl, rfl⟩
  refine (y10 _ _ _ _).2 (y93 _ ?_ hkey)
  rintro _ _ ⟨rfl, rfl⟩
  refine ⟨⟨_, H.get, rfl, rfl⟩, kk _ ?_⟩
  rw [modify_ents c.len hj]
  have hnd : ((HW.mset l k v).map (·.1)).Nodup := nodup_mset c.keys k v
  rw [f4 v] at hnd ⊢
  have back : ∀ y ∈ (l.set j (k, v)).zip bs, ∃ z ∈ l.zip bs, z.2 = y.2 ∧ z.1.1 = y.1.1 := by
   intro y hy
   rw [zip_set] at hy
   obtain ⟨n, hn, e⟩ := List.mem_iff_getElem.1 hy
   have hn' : n < (l.zip bs).length := by simpa using hn
   refine ⟨(l.zip bs)[n], List.getElem_mem hn', ?_⟩
   rw [← e]
   simp only [List.getElem_mapIdx]
   by_cases en : n = j
   ·subst en; rw [if_pos rfl]; simp [f2]
   ·rw [if_neg en]; exact ⟨rfl, rfl⟩
  refine y164.2 ⟨bs, clock, sn, ⟨by simpa using c.len, c.nd, c.lt, hnd, fun y hy => ?_, fun k' hk' y hy e => ?_, c.some⟩, H.set _⟩
  ·obtain ⟨z, hz, e1, e2⟩ := back y hy
   rw [← e1, ← e2]; exact c.seen z hz
  ·obtain ⟨z, hz, e1, e2⟩ := back y hy
   rw [← e1]; exact c.last k' hk' z hz (e2.trans e)
 ·exact absurd f2 hk
theorem Hs.mdels (H : Hs h (rgs κ ν r i l told :: L)) (hm : P.underlying t = some (.map kt et)) (Ky : Keys P kt κ) (k : α) {t2 ty : TypeId} {K : Value → Heap → Prop}
  (kk : ∀ h', Hs h' (rgs κ ν r i (HW.mdel l k) told :: L) → K (.tuple #[]) h') : hwp P (Builtin.delete_ #[t, t2] ty #[.map (some r), κ k]) K h := by
 obtain ⟨bs, clock, sn, c, H⟩ := y164.1 H
 have hc := Ky.chk
 unfold Builtin.delete_
 refine (y10 _ _ _ _).2 ((y32 hm).2 ?_)
 refine (y10 _ _ _ _).2 ⟨_, H.get, rfl, ?_⟩
 refine (y10 _ _ _ _).2 (hc _ _ _ _ ?_)
 refine (y10 _ _ _ _).2 (y180 Ky k c.len ?_)
 rcases find_of (k := k) (l := l) with ⟨j, hj, f1, f2, f3, f4⟩ | ⟨f1, f2, f3⟩
 ·rw [f1]; simp only [Option.bind_some, List.getElem?_eq_getElem hj, Option.map_some]
  refine (y10 _ _ _ _).2 ⟨⟨_, H.get, rfl, rfl⟩, kk _ ?_⟩
  have e : (entsOf κ ν l bs).toArray.eraseIdxIfInBounds j = (entsOf κ ν (l.eraseIdx j) (bs.eraseIdx j)).toArray := by
   apply Array.toList_inj.1
   have : j < (entsOf κ ν l bs).toArray.size := by simpa [ents_len c.len] using hj
   rw [Array.eraseIdxIfInBounds, dif_pos this]
   simp [entsOf, zip_erase _ l bs j c.len]
  rw [e, mdel_erase c.keys hj f2]
  have sub : ∀ y ∈ (l.eraseIdx j).zip (bs.eraseIdx j), y ∈ l.zip bs := by
   intro y hy
   have := zip_erase Prod.mk l bs j c.len
   have hy : y ∈ List.zipWith Prod.mk (l.eraseIdx j) (bs.eraseIdx j) := hy
   rw [← this] at hy
   exact List.mem_of_mem_eraseIdx hy
  refine y164.2 ⟨bs.eraseIdx j, clock, sn, ⟨?_, c.nd.sublist (List.eraseIdx_sublist ..), fun b hb => c.lt b (List.mem_of_mem_eraseIdx hb), ?_, fun y hy => c.seen y (sub y hy), fun k' hk' y hy => c.last k' hk' y (sub y hy), c.some⟩, H.set _⟩
  ·rw [List.length_eraseIdx, List.length_eraseIdx, c.len]
  ·exact c.keys.sublist (List.Sublist.map _ (List.eraseIdx_sublist ..))
 ·rw [f1]
  refine (y10 _ _ _ _).2 ⟨⟨_, H.get, rfl, rfl⟩, kk _ ?_⟩
  rw [mdel_none f2]
  exact y164.2 ⟨bs, clock, sn, c, H.set _⟩
end
end Go.HW

namespace Go.HW
open Go
@[reducible] def selL (n : Nat) (L : List Assn) : List Nat → List Assn
 | [] => L.drop n
 | i :: is => match L[i]? with | some A => A :: selL n L is | none => selL n L is
theorem selL_eq (n : Nat) (L : List Assn) : ∀ is : List Nat, selL n L is = is.filterMap (fun i => L[i]?) ++ L.drop n
 | [] => rfl
 | i :: is => by
  rw [selL, List.filterMap_cons, selL_eq n L is]
  cases L[i]? <;> rfl
theorem range_take (L : List Assn) : ∀ n : Nat, (List.range n).filterMap (fun i => L[i]?) = L.take n
 | 0 => by simp
 | n + 1 => by
  rw [List.range_succ, List.filterMap_append, range_take L n, List.take_add_one]
  congr 1
theorem Hs.sel {h : Heap} {L : List Assn} (H : Hs h L) (n : Nat) (is : List Nat) (hd : (decide is.Nodup && is.all (fun i => decide (i < n))) = true := by decide) : Hs h (selL n L is) := by
 rw [Bool.and_eq_true, decide_eq_true_eq, List.all_eq_true] at hd
 obtain ⟨h1, h2⟩ := hd
 have hp : (is ++ (List.range n).filter (fun i => !is.contains i)).Perm (List.range n) := by
  refine (List.perm_ext_iff_of_nodup (List.nodup_append.2 ⟨h1, List.nodup_range.filter _, ?_⟩) List.nodup_range).2 fun i => ?_
  ·rintro a ha b hb rfl
   have := (List.mem_filter.1 hb).2
   simp [ha] at this
  ·rw [List.mem_append, List.mem_filter, List.mem_range]
   constructor
   ·rintro (q | q)
    ·exact of_decide_eq_true (h2 i q)
    ·exact q.1
   ·intro q
    by_cases e : i ∈ is
    ·exact .inl e
    ·exact .inr ⟨q, by simp [e]⟩
 have hq := (hp.filterMap (fun i => L[i]?)).append_right (L.drop n)
 rw [range_take, List.take_append_drop, List.filterMap_append] at hq
 have H2 := H.perm hq.symm
 rw [selL_eq]
 have H3 : Hs h (((List.range n).filter (fun i => !is.contains i)).filterMap (fun i => L[i]?) ++ (is.filterMap (fun i => L[i]?) ++ L.drop n)) := H2.perm (by
  rw [List.append_assoc]
  exact List.perm_append_comm_assoc ..)
 have drop : ∀ (A : List Assn) {B : List Assn}, Hs h (A ++ B) → Hs h B := by
  intro A
  induction A with
  | nil => exact fun H => H
  | cons a A ih => exact fun H => ih H.tl
 exact drop _ H3
end Go.HW

namespace Go.HW
open Go

end Go.HW

namespace Go.HW
open Go
end Go.HW

namespace Go.HW
open Go
theorem bless_eq : ∀ (x y : List UInt8), Op.bytesLess x y = decide (x < y)
 | [], [] => by simp [Op.bytesLess]
 | _ :: _, [] => by simp [Op.bytesLess]
 | [], _ :: _ => by simp [Op.bytesLess]
 | a :: x, b :: y => by
  rw [Op.bytesLess, bless_eq x y]
  simp only [List.cons_lt_cons_iff]
  by_cases h1 : a < b <;> by_cases h2 : a = b <;> by_cases h3 : x < y <;> simp [h1, h2, h3]
theorem slt_eq (x y : ByteArray) : strLt x y = decide (x.data.toList < y.data.toList) := by
 unfold strLt; rw [bless_eq, ByteArray.toList_eq, ByteArray.toList_eq]
theorem slt_ext {x y : ByteArray} (h : x.data.toList = y.data.toList) : x = y := by
 cases x; cases y; simp only at h; rw [Array.toList_inj.1 h]
theorem slt_irrefl (x : ByteArray) : strLt x x = false := by rw [slt_eq]; simp [List.lt_irrefl]
theorem slt_trans {x y z : ByteArray} (h1 : strLt x y = true) (h2 : strLt y z = true) : strLt x z = true := by
 rw [slt_eq, decide_eq_true_eq] at *; exact List.lt_trans h1 h2
theorem slt_tri {x y : ByteArray} (h1 : strLt x y = false) (h2 : strLt y x = false) : x = y := by
 rw [slt_eq, decide_eq_false_iff_not, List.not_lt] at *; exact slt_ext (List.le_antisymm h2 h1)
end Go.HW

namespace Go.HW
open Go

theorem hwp_ssub {P : Program} {t : TypeId} {s : ByteArray} {lo hi : Option Value} (ht : P.underlying t = some .string) (il : isInt lo) (ih : isInt hi) (h0 : 0 ≤ bnd lo 0) (h1 : bnd lo 0 ≤ bnd hi s.size) (h2 : bnd hi s.size ≤ s.size)
  {K : Value → Heap → Prop} {h : Heap} (H : K (.string (s.extract (bnd lo 0).toNat (bnd hi s.size).toNat)) h) : hwp P (Instr.sliceAt t (.string s) lo hi none) K h := by
 unfold Instr.sliceAt
 refine (y10 _ _ _ _).2 ((y32 ht).2 ?_)
 show hwp P (Instr.slice t (.string s) lo hi none) K h
 unfold Instr.slice
 refine (y10 _ _ _ _).2 ((y32 ht).2 ?_)
 have key : hwp P (Instr.sliceBounds false s.size s.size lo hi none) (fun p h' => p = ((bnd lo 0).toNat, (bnd hi s.size).toNat, s.size) ∧ h' = h) h := by
  unfold Instr.sliceBounds
  refine (y10 _ _ _ _).2 ?_
  show hwp P _ _ h
  cases hi with
  | none =>
   refine (y10 _ _ _ _).2 ?_
   cases lo with
   | none => refine (y10 _ _ _ _).2 ?_; simp [hwp, pure, bnd]
   | some v =>
    obtain ⟨k, i, rfl⟩ : ∃ k i, v = .int k i := by cases v <;> simp_all [isInt]
    have h0 : 0 ≤ i := h0
    have h1 : i ≤ (s.size : Int) := h1
    refine (y10 _ _ _ _).2 (y151 h0 h1 ?_)
    simp [hwp, pure, bnd]
  | some u =>
   obtain ⟨k', j, rfl⟩ : ∃ k i, u = .int k i := by cases u <;> simp_all [isInt]
   have h1 : bnd lo 0 ≤ j := h1
   have h2 : j ≤ s.size := h2
   show hwp P _ (fun p h' => p = ((bnd lo 0).toNat, j.toNat, s.size) ∧ h' = h) h
   refine (y10 _ _ _ _).2 (y151 (by omega) h2 ?_)
   cases lo with
   | none => refine (y10 _ _ _ _).2 ?_; simp [hwp, pure, bnd]
   | some v =>
    obtain ⟨k, i, rfl⟩ : ∃ k i, v = .int k i := by cases v <;> simp_all [isInt]
    have h0 : 0 ≤ i := h0
    have h1 : i ≤ j := h1
    refine (y10 _ _ _ _).2 (y151 h0 (by omega) ?_)
    exact ⟨rfl, rfl⟩
 refine (y10 _ _ _ _).2 (y93 _ ?_ key)
 rintro _ _ ⟨rfl, rfl⟩
 exact H
theorem sb_extract (s : ByteArray) (i j : Nat) : sb (s.extract i j) = ((sb s).drop i).take (j - i) := by
 unfold sb
 rw [← List.map_drop, ← List.map_take]
 congr 1
 simp [ByteArray.data_extract, Array.toList_extract, List.extract_eq_take_drop]

theorem of_below {P : Program} {f : FuncId} {args : List Value} {h : Heap} {Q : Value → Heap → Prop}
  (H : ∀ w : World, w.heap = h → Calls P f args.toArray w fun e w' => ∃ v, e = .returned v ∧ RowKit.Below w.heap.size w w' ∧ w.drawn ≤ w'.drawn ∧ (ExtB h.size h w'.heap → Q v w'.heap)) : SpecH P f args h Q := by
 intro w hw
 refine (H w hw).mono ?_
 rintro e w' ⟨v, he, hb, hdr, hq⟩
 subst hw
 have x : ExtB w.heap.size w.heap w'.heap := ⟨hb.size, hb.block⟩
 exact ⟨v, he, ⟨hb.os, hb.tape, hb.output, fun i o e _ => x.toExt i o e, hb.size, hdr⟩, hq x⟩
end Go.HW

namespace Go.HW
open Go
def ptrV (b : Nat) : Value := .pointer (some ⟨b, 0, none⟩)
section
variable {α β : Type} {P : Program} {h : Heap} {L : List Assn} {t kt et el : TypeId} {r : Nat}
structure PKeys (P : Program) (kt el : TypeId) : Prop where
 und : P.underlying kt = some (.pointer el)
 sz : ∃ i n, P.info? el = some i ∧ i.size = n ∧ n ≠ 0
variable {ν : β → Value} {l : List (Nat × β)}
end
section
variable {α β : Type} [DecidableEq α] {κ : α → Value} {ν : β → Value} {P : Program} {h : Heap} {L : List Assn} {r : Nat} {l : List (α × β)}
end
section
variable {P : Program} {h : Heap} {L : List Assn} {t e : TypeId} {bz n c i : Nat} {z : Value} {a : Option Addr} {xs : List Value}
end
end Go.HW

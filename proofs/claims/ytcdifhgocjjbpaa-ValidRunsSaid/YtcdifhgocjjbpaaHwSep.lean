/- Heaps taken apart: assertions on parts of a heap, side by side. -/
import Derived.Test.YtcdifhgocjjbpaaHwNum
set_option linter.unusedVariables false
set_option linter.unusedSimpArgs false
namespace Go.HW
open Go

abbrev PM := Nat → Option Obj
abbrev Assn := PM → Prop
def Dj (m m' : PM) : Prop := ∀ b, m b = none ∨ m' b = none
def Sub (m m' : PM) : Prop := ∀ b o, m b = some o → m' b = some o
theorem Sub.refl (m : PM) : Sub m m := fun _ _ h => h
theorem Sub.trans {a b c : PM} (h : Sub a b) (k : Sub b c) : Sub a c := fun x o e => k x o (h x o e)
theorem Dj.symm {a b : PM} (h : Dj a b) : Dj b a := fun x => (h x).symm
theorem Dj.sub {a b c : PM} (h : Dj a b) (k : Sub c b) : Dj a c := fun x => (h x).imp id fun e => by
  cases hc : c x with
  | none => rfl
  | some o => rw [k x o hc] at e; cases e
def Un (a b : PM) : PM := fun x => match a x with | some o => some o | none => b x
theorem Un.left (a b : PM) : Sub a (Un a b) := fun x o e => by simp [Un, e]
theorem Un.right {a b : PM} (h : Dj a b) : Sub b (Un a b) := fun x o e => by
  rcases h x with k | k
  · simp [Un, k, e]
  · rw [e] at k; cases k
theorem Un.dj {a b c : PM} (h : Dj a c) (k : Dj b c) : Dj (Un a b) c := fun x => by
  rcases h x with e | e
  · rcases k x with f | f
    · left; simp [Un, e, f]
    · exact .inr f
  · exact .inr e
theorem Un.sub {a b c : PM} (h : Sub a c) (k : Sub b c) : Sub (Un a b) c := fun x o e => by
  unfold Un at e
  split at e
  · rename_i o' h'; cases e; exact h x _ h'
  · exact k x o e

/-- These assertions hold side by side (on parts that share no block). -/
def Sp : List Assn → Assn
  | [], _ => True
  | A :: L, m => ∃ m1 m2, A m1 ∧ Sp L m2 ∧ Dj m1 m2 ∧ Sub m1 m ∧ Sub m2 m
theorem Sp.sub {L : List Assn} {m m' : PM} (h : Sp L m) (s : Sub m m') : Sp L m' := by
  cases L with
  | nil => trivial
  | cons A L => obtain ⟨m1, m2, a, b, c, d, e⟩ := h; exact ⟨m1, m2, a, b, c, d.trans s, e.trans s⟩
theorem Sp.swap {A B : Assn} {L : List Assn} {m : PM} (h : Sp (A :: B :: L) m) : Sp (B :: A :: L) m := by
  obtain ⟨m1, m2, a, ⟨m3, m4, b, l, d34, s3, s4⟩, d12, s1, s2⟩ := h
  have d13 : Dj m3 m1 := (d12.sub s3).symm
  have d14 : Dj m1 m4 := d12.sub s4
  exact ⟨m3, Un m1 m4, b, ⟨m1, m4, a, l, d14, Un.left _ _, Un.right d14⟩, (Un.dj d13.symm d34.symm).symm, s3.trans s2, Un.sub s1 (s4.trans s2)⟩
theorem Sp.cons {A B : Assn} {L M : List Assn} {m : PM} (ha : ∀ m, A m → B m) (hl : ∀ m, Sp L m → Sp M m) (h : Sp (A :: L) m) : Sp (B :: M) m := by
  obtain ⟨m1, m2, a, l, d, s1, s2⟩ := h; exact ⟨m1, m2, ha _ a, hl _ l, d, s1, s2⟩
theorem Sp.tl {A : Assn} {L : List Assn} {m : PM} (h : Sp (A :: L) m) : Sp L m := by
  obtain ⟨m1, m2, a, l, d, s1, s2⟩ := h; exact l.sub s2
theorem Sp.perm {L M : List Assn} (p : List.Perm L M) : ∀ {m : PM}, Sp L m → Sp M m := by
  induction p with
  | nil => exact fun h => h
  | cons x _ ih => exact fun h => Sp.cons (fun _ a => a) (fun _ => ih) h
  | swap x y l => exact fun h => Sp.swap h
  | trans _ _ ih1 ih2 => exact fun h => ih2 (ih1 h)
theorem Sp.app {L M : List Assn} : ∀ {m : PM}, Sp (L ++ M) m ↔ Sp (Sp L :: M) m := by
  induction L with
  | nil =>
    intro m
    refine ⟨fun h => ⟨fun _ => none, m, trivial, h, fun _ => .inl rfl, (fun _ _ e => nomatch e), .refl _⟩, fun h => Sp.tl h⟩
  | cons A L ih =>
    intro m
    constructor
    · rintro ⟨m1, m2, a, l, d, s1, s2⟩
      obtain ⟨m3, m4, b, c, d34, s3, s4⟩ := ih.1 l
      refine ⟨Un m1 m3, m4, ⟨m1, m3, a, b, d.sub s3, Un.left _ _, Un.right (d.sub s3)⟩, c, Un.dj (d.sub s4) d34, Un.sub s1 (s3.trans s2), s4.trans s2⟩
    · rintro ⟨m1, m2, ⟨m3, m4, a, l, d34, s3, s4⟩, c, d, s1, s2⟩
      have d32 : Dj m3 m2 := (d.symm.sub s3).symm
      have d42 : Dj m4 m2 := (d.symm.sub s4).symm
      exact ⟨m3, Un m4 m2, a, ih.2 ⟨m4, m2, l, c, d42, Un.left _ _, Un.right d42⟩, (Un.dj d34.symm d32.symm).symm, s3.trans s1, Un.sub (s4.trans s1) s2⟩

/-- A heap that holds these. -/
def Hs (h : Heap) (L : List Assn) : Prop := Sp L fun b => h[b]?
section
variable {h h' : Heap} {A B C D E G : Assn} {L M : List Assn}
theorem Hs.nil (h : Heap) : Hs h [] := trivial
theorem Hs.ext (H : Hs h L) (e : Ext h h') : Hs h' L := Sp.sub H e
theorem Hs.perm (H : Hs h L) (p : List.Perm L M) : Hs h M := Sp.perm p H
theorem Hs.tl (H : Hs h (A :: L)) : Hs h L := Sp.tl H
theorem Hs.mono (H : Hs h (A :: L)) (k : ∀ m, A m → B m) : Hs h (B :: L) := Sp.cons k (fun _ l => l) H
theorem Hs.mono_tl (H : Hs h (A :: L)) (k : ∀ m, Sp L m → Sp M m) : Hs h (A :: M) := Sp.cons (fun _ a => a) k H
theorem Hs.m1 (H : Hs h (A :: B :: L)) : Hs h (B :: A :: L) := Sp.swap H
theorem Sp.m2 {A0 B0 C0 : Assn} {L : List Assn} {m : PM} (h : Sp (A0 :: B0 :: C0 :: L) m) : Sp (C0 :: A0 :: B0 :: L) m := Sp.swap (Sp.cons (fun _ a => a) (fun _ l => Sp.swap l) h)
theorem Sp.r2 {A0 B0 C0 : Assn} {L : List Assn} {m : PM} (h : Sp (A0 :: B0 :: C0 :: L) m) : Sp (B0 :: C0 :: A0 :: L) m := Sp.cons (fun _ a => a) (fun _ l => Sp.swap l) (Sp.swap h)
theorem Sp.m3 {A0 B0 C0 D0 : Assn} {L : List Assn} {m : PM} (h : Sp (A0 :: B0 :: C0 :: D0 :: L) m) : Sp (D0 :: A0 :: B0 :: C0 :: L) m := Sp.swap (Sp.cons (fun _ a => a) (fun _ l => Sp.m2 l) h)
theorem Sp.r3 {A0 B0 C0 D0 : Assn} {L : List Assn} {m : PM} (h : Sp (A0 :: B0 :: C0 :: D0 :: L) m) : Sp (B0 :: C0 :: D0 :: A0 :: L) m := Sp.cons (fun _ a => a) (fun _ l => Sp.r2 l) (Sp.swap h)
theorem Sp.m4 {A0 B0 C0 D0 E0 : Assn} {L : List Assn} {m : PM} (h : Sp (A0 :: B0 :: C0 :: D0 :: E0 :: L) m) : Sp (E0 :: A0 :: B0 :: C0 :: D0 :: L) m := Sp.swap (Sp.cons (fun _ a => a) (fun _ l => Sp.m3 l) h)
theorem Sp.r4 {A0 B0 C0 D0 E0 : Assn} {L : List Assn} {m : PM} (h : Sp (A0 :: B0 :: C0 :: D0 :: E0 :: L) m) : Sp (B0 :: C0 :: D0 :: E0 :: A0 :: L) m := Sp.cons (fun _ a => a) (fun _ l => Sp.r3 l) (Sp.swap h)
theorem Sp.m5 {A0 B0 C0 D0 E0 F0 : Assn} {L : List Assn} {m : PM} (h : Sp (A0 :: B0 :: C0 :: D0 :: E0 :: F0 :: L) m) : Sp (F0 :: A0 :: B0 :: C0 :: D0 :: E0 :: L) m := Sp.swap (Sp.cons (fun _ a => a) (fun _ l => Sp.m4 l) h)
theorem Sp.r5 {A0 B0 C0 D0 E0 F0 : Assn} {L : List Assn} {m : PM} (h : Sp (A0 :: B0 :: C0 :: D0 :: E0 :: F0 :: L) m) : Sp (B0 :: C0 :: D0 :: E0 :: F0 :: A0 :: L) m := Sp.cons (fun _ a => a) (fun _ l => Sp.r4 l) (Sp.swap h)
theorem Sp.m6 {A0 B0 C0 D0 E0 F0 G0 : Assn} {L : List Assn} {m : PM} (h : Sp (A0 :: B0 :: C0 :: D0 :: E0 :: F0 :: G0 :: L) m) : Sp (G0 :: A0 :: B0 :: C0 :: D0 :: E0 :: F0 :: L) m := Sp.swap (Sp.cons (fun _ a => a) (fun _ l => Sp.m5 l) h)
theorem Sp.r6 {A0 B0 C0 D0 E0 F0 G0 : Assn} {L : List Assn} {m : PM} (h : Sp (A0 :: B0 :: C0 :: D0 :: E0 :: F0 :: G0 :: L) m) : Sp (B0 :: C0 :: D0 :: E0 :: F0 :: G0 :: A0 :: L) m := Sp.cons (fun _ a => a) (fun _ l => Sp.r5 l) (Sp.swap h)
theorem Sp.m7 {A0 B0 C0 D0 E0 F0 G0 H0 : Assn} {L : List Assn} {m : PM} (h : Sp (A0 :: B0 :: C0 :: D0 :: E0 :: F0 :: G0 :: H0 :: L) m) : Sp (H0 :: A0 :: B0 :: C0 :: D0 :: E0 :: F0 :: G0 :: L) m := Sp.swap (Sp.cons (fun _ a => a) (fun _ l => Sp.m6 l) h)
theorem Sp.r7 {A0 B0 C0 D0 E0 F0 G0 H0 : Assn} {L : List Assn} {m : PM} (h : Sp (A0 :: B0 :: C0 :: D0 :: E0 :: F0 :: G0 :: H0 :: L) m) : Sp (B0 :: C0 :: D0 :: E0 :: F0 :: G0 :: H0 :: A0 :: L) m := Sp.cons (fun _ a => a) (fun _ l => Sp.r6 l) (Sp.swap h)
theorem Sp.m8 {A0 B0 C0 D0 E0 F0 G0 H0 I0 : Assn} {L : List Assn} {m : PM} (h : Sp (A0 :: B0 :: C0 :: D0 :: E0 :: F0 :: G0 :: H0 :: I0 :: L) m) : Sp (I0 :: A0 :: B0 :: C0 :: D0 :: E0 :: F0 :: G0 :: H0 :: L) m := Sp.swap (Sp.cons (fun _ a => a) (fun _ l => Sp.m7 l) h)
theorem Sp.r8 {A0 B0 C0 D0 E0 F0 G0 H0 I0 : Assn} {L : List Assn} {m : PM} (h : Sp (A0 :: B0 :: C0 :: D0 :: E0 :: F0 :: G0 :: H0 :: I0 :: L) m) : Sp (B0 :: C0 :: D0 :: E0 :: F0 :: G0 :: H0 :: I0 :: A0 :: L) m := Sp.cons (fun _ a => a) (fun _ l => Sp.r7 l) (Sp.swap h)
theorem Hs.m2 {A0 B0 C0 : Assn} {L : List Assn} {h : Heap} (H : Hs h (A0 :: B0 :: C0 :: L)) : Hs h (C0 :: A0 :: B0 :: L) := Sp.m2 H
theorem Hs.r2 {A0 B0 C0 : Assn} {L : List Assn} {h : Heap} (H : Hs h (A0 :: B0 :: C0 :: L)) : Hs h (B0 :: C0 :: A0 :: L) := Sp.r2 H
theorem Hs.m3 {A0 B0 C0 D0 : Assn} {L : List Assn} {h : Heap} (H : Hs h (A0 :: B0 :: C0 :: D0 :: L)) : Hs h (D0 :: A0 :: B0 :: C0 :: L) := Sp.m3 H
theorem Hs.r3 {A0 B0 C0 D0 : Assn} {L : List Assn} {h : Heap} (H : Hs h (A0 :: B0 :: C0 :: D0 :: L)) : Hs h (B0 :: C0 :: D0 :: A0 :: L) := Sp.r3 H
theorem Hs.m4 {A0 B0 C0 D0 E0 : Assn} {L : List Assn} {h : Heap} (H : Hs h (A0 :: B0 :: C0 :: D0 :: E0 :: L)) : Hs h (E0 :: A0 :: B0 :: C0 :: D0 :: L) := Sp.m4 H
theorem Hs.r4 {A0 B0 C0 D0 E0 : Assn} {L : List Assn} {h : Heap} (H : Hs h (A0 :: B0 :: C0 :: D0 :: E0 :: L)) : Hs h (B0 :: C0 :: D0 :: E0 :: A0 :: L) := Sp.r4 H
theorem Hs.m5 {A0 B0 C0 D0 E0 F0 : Assn} {L : List Assn} {h : Heap} (H : Hs h (A0 :: B0 :: C0 :: D0 :: E0 :: F0 :: L)) : Hs h (F0 :: A0 :: B0 :: C0 :: D0 :: E0 :: L) := Sp.m5 H
theorem Hs.r5 {A0 B0 C0 D0 E0 F0 : Assn} {L : List Assn} {h : Heap} (H : Hs h (A0 :: B0 :: C0 :: D0 :: E0 :: F0 :: L)) : Hs h (B0 :: C0 :: D0 :: E0 :: F0 :: A0 :: L) := Sp.r5 H
theorem Hs.m6 {A0 B0 C0 D0 E0 F0 G0 : Assn} {L : List Assn} {h : Heap} (H : Hs h (A0 :: B0 :: C0 :: D0 :: E0 :: F0 :: G0 :: L)) : Hs h (G0 :: A0 :: B0 :: C0 :: D0 :: E0 :: F0 :: L) := Sp.m6 H
theorem Hs.r6 {A0 B0 C0 D0 E0 F0 G0 : Assn} {L : List Assn} {h : Heap} (H : Hs h (A0 :: B0 :: C0 :: D0 :: E0 :: F0 :: G0 :: L)) : Hs h (B0 :: C0 :: D0 :: E0 :: F0 :: G0 :: A0 :: L) := Sp.r6 H
theorem Hs.m7 {A0 B0 C0 D0 E0 F0 G0 H0 : Assn} {L : List Assn} {h : Heap} (H : Hs h (A0 :: B0 :: C0 :: D0 :: E0 :: F0 :: G0 :: H0 :: L)) : Hs h (H0 :: A0 :: B0 :: C0 :: D0 :: E0 :: F0 :: G0 :: L) := Sp.m7 H
theorem Hs.r7 {A0 B0 C0 D0 E0 F0 G0 H0 : Assn} {L : List Assn} {h : Heap} (H : Hs h (A0 :: B0 :: C0 :: D0 :: E0 :: F0 :: G0 :: H0 :: L)) : Hs h (B0 :: C0 :: D0 :: E0 :: F0 :: G0 :: H0 :: A0 :: L) := Sp.r7 H
theorem Hs.m8 {A0 B0 C0 D0 E0 F0 G0 H0 I0 : Assn} {L : List Assn} {h : Heap} (H : Hs h (A0 :: B0 :: C0 :: D0 :: E0 :: F0 :: G0 :: H0 :: I0 :: L)) : Hs h (I0 :: A0 :: B0 :: C0 :: D0 :: E0 :: F0 :: G0 :: H0 :: L) := Sp.m8 H
theorem Hs.r8 {A0 B0 C0 D0 E0 F0 G0 H0 I0 : Assn} {L : List Assn} {h : Heap} (H : Hs h (A0 :: B0 :: C0 :: D0 :: E0 :: F0 :: G0 :: H0 :: I0 :: L)) : Hs h (B0 :: C0 :: D0 :: E0 :: F0 :: G0 :: H0 :: I0 :: A0 :: L) := Sp.r8 H
theorem Hs.at {i : Nat} (H : Hs h L) (i : Nat) {A : Assn} (e : L[i]? = some A) : Hs h (A :: L.eraseIdx i) := H.perm (by
  have hi : i < L.length := (List.getElem?_eq_some_iff.1 e).1
  have ha : L[i] = A := (List.getElem?_eq_some_iff.1 e).2
  subst ha
  clear e H
  induction L generalizing i with
  | nil => exact absurd hi (by simp)
  | cons x l ih =>
    cases i with
    | zero => exact List.Perm.refl _
    | succ i => exact (List.Perm.cons x (ih i (by simpa using hi))).trans (List.Perm.swap _ _ _))
theorem Hs.app : Hs h (Sp L :: M) ↔ Hs h (L ++ M) := Sp.app.symm
theorem Hs.ex {α : Sort _} {A : α → Assn} : Hs h ((fun m => ∃ x, A x m) :: L) ↔ ∃ x, Hs h (A x :: L) :=
  ⟨fun ⟨m1, m2, ⟨x, a⟩, r⟩ => ⟨x, m1, m2, a, r⟩, fun ⟨x, m1, m2, a, r⟩ => ⟨m1, m2, ⟨x, a⟩, r⟩⟩
theorem Hs.and {φ : Prop} : Hs h ((fun m => φ ∧ A m) :: L) ↔ φ ∧ Hs h (A :: L) :=
  ⟨fun ⟨m1, m2, ⟨f, a⟩, r⟩ => ⟨f, m1, m2, a, r⟩, fun ⟨f, m1, m2, a, r⟩ => ⟨m1, m2, ⟨f, a⟩, r⟩⟩
/-- Something that a part alone shows is so. -/
theorem Hs.fact {φ : Prop} (H : Hs h (A :: L)) (k : ∀ m, A m → Sub m (fun b => h[b]?) → φ) : φ := by
  obtain ⟨m1, m2, a, _, _, s1, _⟩ := H; exact k _ a s1

/-- Block b holds this. -/
def ob (b : Nat) (o : Obj) : Assn := fun m => m b = some o
theorem Hs.get {b : Nat} {o : Obj} (H : Hs h (ob b o :: L)) : h[b]? = some o := H.fact fun _ a s => s _ _ a
theorem Hs.set {b : Nat} {o : Obj} (H : Hs h (ob b o :: L)) (o' : Obj) : Hs (h.setIfInBounds b o') (ob b o' :: L) := by
  have hb := H.get
  obtain ⟨m1, m2, a, l, d, s1, s2⟩ := H
  refine ⟨fun x => if x = b then some o' else none, m2, by simp [ob], l, fun x => ?_, fun x y e => ?_, fun x y e => ?_⟩
  · by_cases hx : x = b
    · subst hx; right
      rcases d x with k | k
      · rw [show m1 x = some o from a] at k; cases k
      · exact k
    · left; simp [hx]
  · by_cases hx : x = b
    · subst hx
      simp only [if_true] at e
      show (h.setIfInBounds x o')[x]? = some y
      rw [get_set, if_pos rfl, if_pos (lt_of_get hb)]; exact e
    · simp only [if_neg hx] at e; cases e
  · have hx : b ≠ x := by
      rintro rfl
      rcases d b with k | k
      · rw [show m1 b = some o from a] at k; cases k
      · rw [k] at e; cases e
    show (h.setIfInBounds b o')[x]? = some y
    rw [get_set, if_neg hx]; exact s2 x y e
theorem Hs.push (H : Hs h L) (o : Obj) : Hs (h.push o) (ob h.size o :: L) := by
  refine ⟨fun x => if x = h.size then some o else none, fun b => h[b]?, by simp [ob], H, fun x => ?_, fun x y e => ?_, fun x y e => ?_⟩
  · by_cases hx : x = h.size
    · right; subst hx; simp
    · left; simp [hx]
  · by_cases hx : x = h.size
    · subst hx
      simp only [if_true] at e
      show (h.push o)[h.size]? = some y
      rw [get_push, if_pos rfl]; exact e
    · simp only [if_neg hx] at e; cases e
  · show (h.push o)[x]? = some y
    rw [get_push, if_neg (by have := lt_of_get e; omega)]; exact e
/-- What a change of the first part alone comes to (new blocks may come up). -/
theorem Hs.upd (H : Hs h (A :: L)) (k : ∀ m1 m2 : PM, A m1 → Dj m1 m2 → Sub m1 (fun b => h[b]?) → Sub m2 (fun b => h[b]?) → ∃ m1', B m1' ∧ Dj m1' m2 ∧ Sub m1' (fun b => h'[b]?) ∧ Sub m2 (fun b => h'[b]?)) : Hs h' (B :: L) := by
  obtain ⟨m1, m2, a, l, d, s1, s2⟩ := H
  obtain ⟨m1', a', d', s1', s2'⟩ := k m1 m2 a d s1 s2
  exact ⟨m1', m2, a', l, d', s1', s2'⟩

/-- All that was there at first lies as it lay. -/
def ro (h0 : Heap) : Assn := fun m => ∀ b, b < h0.size → m b = h0[b]?
theorem Hs.start (h : Heap) : Hs h [ro h] := ⟨fun b => h[b]?, fun _ => none, fun _ _ => rfl, trivial, fun _ => .inr rfl, .refl _, (fun _ _ e => nomatch e)⟩
theorem Hs.ro_below {h0 : Heap} (H : Hs h (ro h0 :: L)) : ExtB h0.size h0 h := by
  have k : ∀ b, b < h0.size → h[b]? = h0[b]? := H.fact fun m a s b hb => by
    have e : h0[b]? = some h0[b] := Array.getElem?_eq_getElem hb
    rw [e]; exact s _ _ (by rw [a b hb, e])
  refine ⟨?_, k⟩
  rcases Nat.lt_or_ge h.size h0.size with hlt | hge
  · have := k _ hlt; simp [Array.getElem?_eq_getElem hlt] at this
  · exact hge
theorem Hs.ro_rd {h0 : Heap} (H : Hs h (ro h0 :: L)) {a : Option Addr} {xs : List Value} (k : Rd h0 a xs) : Rd h a xs := k.keep H.ro_below

/-- Wherever these hold, the slice reads so. -/
def Gv (L : List Assn) (a : Option Addr) (xs : List Value) : Prop := ∀ h, Hs h L → Rd h a xs
theorem Gv.cons {a : Option Addr} {xs : List Value} (k : Gv L a xs) : Gv (A :: L) a xs := fun h H => k h H.tl
theorem Gv.ro {h0 : Heap} {a : Option Addr} {xs : List Value} (k : Rd h0 a xs) : Gv (ro h0 :: L) a xs := fun h H => H.ro_rd k
theorem Gv.take {a : Option Addr} {xs : List Value} (k : Gv L a xs) (n : Nat) : Gv L a (xs.take n) := fun h H => (k h H).take n

/-! ### One of many -/
theorem Sp.focus {As : List Assn} {i : Nat} {A : Assn} (e : As[i]? = some A) {m : PM} (H : Sp As m) : Sp (A :: As.eraseIdx i) m := by
  refine Sp.perm ?_ H
  have hi : i < As.length := (List.getElem?_eq_some_iff.1 e).1
  have ha : As[i] = A := (List.getElem?_eq_some_iff.1 e).2
  subst ha
  clear e H
  induction As generalizing i with
  | nil => exact absurd hi (by simp)
  | cons x l ih =>
    cases i with
    | zero => exact List.Perm.refl _
    | succ i => exact (List.Perm.cons x (ih (by simpa using hi))).trans (List.Perm.swap _ _ _)
theorem Sp.unfocus {As : List Assn} {i : Nat} {A : Assn} (hi : i < As.length) {m : PM} (H : Sp (A :: As.eraseIdx i) m) : Sp (As.set i A) m := by
  refine Sp.perm ?_ H
  clear H
  induction As generalizing i with
  | nil => exact absurd hi (by simp)
  | cons x l ih =>
    cases i with
    | zero => exact List.Perm.refl _
    | succ i => exact (List.Perm.swap _ _ _).trans (List.Perm.cons x (ih (by simpa using hi)))
theorem Sp.two {As : List Assn} {A : Assn} {m : PM} : Sp (A :: As) m ↔ Sp [A, Sp As] m := by
  constructor
  · rintro ⟨m1, m2, a, b, c, d, e⟩
    exact ⟨m1, m2, a, ⟨m2, fun _ => none, b, trivial, fun _ => .inr rfl, Sub.refl _, (fun _ _ e => nomatch e)⟩, c, d, e⟩
  · rintro ⟨m1, m2, a, ⟨m3, m4, b, _, d1, e1, _⟩, c, d, e⟩
    exact ⟨m1, m3, a, b, c.sub e1, d, e1.trans e⟩
theorem Hs.focus {As : List Assn} {i : Nat} (e : As[i]? = some A) (H : Hs h (Sp As :: L)) : Hs h (A :: Sp (As.eraseIdx i) :: L) :=
  Hs.app.1 (H.mono fun m hm => Sp.two.1 (Sp.focus e hm))
theorem Hs.unfocus {As : List Assn} {i : Nat} (hi : i < As.length) (H : Hs h (A :: Sp (As.eraseIdx i) :: L)) : Hs h (Sp (As.set i A) :: L) :=
  ((Hs.app (L := [A, Sp (As.eraseIdx i)])).2 H).mono fun m hm => Sp.unfocus hi (Sp.two.2 hm)

/-! ### Rows of cells -/
def pt (b : Nat) (t : TypeId) (xs : List Value) : Assn := ob b (.cells xs.toArray t (0, 0))
theorem Hs.blk {b : Nat} {t : TypeId} {xs : List Value} (H : Hs h (pt b t xs :: L)) : Blk h b t xs := H.get
theorem Hs.cell {b : Nat} {t : TypeId} {xs : List Value} {v : Value} {a : Addr} {off : Nat} (H : Hs h (pt b t xs :: L)) (ev : xs[off]? = some v) (ha : a = ⟨b, off, none⟩ := by rfl) : cellH h a = some v := by
  subst ha; exact cell_of H.get (by simpa using ev)
theorem Hs.sto {b : Nat} {t : TypeId} {xs : List Value} {v : Value} {a : Addr} {off : Nat} {K : Heap → Prop} (H : Hs h (pt b t xs :: L)) (ho : off < xs.length) (k : ∀ h', Hs h' (pt b t (xs.set off v) :: L) → K h')
    (hv : oneC v = true := by rfl) (ha : a = ⟨b, off, none⟩ := by rfl) : wr a v K h := by
  subst ha; exact wr_ok H.get ho hv (k _ (Hs.set H _))
theorem Hs.rdc {b : Nat} {t : TypeId} {xs : List Value} (H : Hs h (pt b t xs :: L)) : ∀ {vs : List Value} {off i : Nat}, (xs.drop (off + i)).take vs.length = vs → rdCells h ⟨b, off, none⟩ i vs := by
  intro vs
  induction vs with
  | nil => exact fun _ => trivial
  | cons v vs ih =>
    intro off i e
    have h0 : xs[off + i]? = some v := by
      have := congrArg (·[0]?) e
      simpa [List.getElem?_take, List.getElem?_drop] using this
    refine ⟨?_, ih (off := off) (i := i + 1) ?_⟩
    · rw [add_mk]; exact H.cell h0
    · have := congrArg List.tail e
      simpa [← List.drop_one, List.drop_take, List.drop_drop, Nat.add_assoc] using this
theorem Hs.rdc0 {b : Nat} {t : TypeId} {xs : List Value} (H : Hs h (pt b t xs :: L)) {a : Addr} (ha : a = ⟨b, 0, none⟩ := by rfl) : rdCells h a 0 xs := by
  subst ha; exact H.rdc (by simp)
theorem Hs.rdo {b : Nat} {t : TypeId} {xs vs : List Value} {a : Addr} (H : Hs h (pt b t xs :: L)) (off : Nat) (e : (xs.drop off).take vs.length = vs := by rfl) (ha : a = ⟨b, off, none⟩ := by rfl) : rdCells h a 0 vs := by
  subst ha; exact H.rdc (by simpa using e)
theorem Hs.new (H : Hs h L) {t : TypeId} {cs : Array Value} {xs : List Value} (e : cs = xs.toArray := by rfl) : Hs (h.push (.cells cs t (0, 0))) (pt h.size t xs :: L) := by subst e; exact H.push _
theorem Hs.ptrd {b off : Nat} {t : TypeId} {xs ys : List Value} (H : Hs h (pt b t xs :: L)) (e : ys = (xs.drop off).take ys.length) : Rd h (some ⟨b, off, none⟩) ys := Rd.of_blk H.get e

theorem Hs.chg {b : Nat} {o o' : Obj} (H : Hs h (ob b o :: L)) (hk : ∀ j, b ≠ j → h'[j]? = h[j]?) (hb : h'[b]? = some o') : Hs h' (ob b o' :: L) := by
  obtain ⟨m1, m2, a, l, d, s1, s2⟩ := H
  refine ⟨fun x => if x = b then some o' else none, m2, by simp [ob], l, fun x => ?_, fun x y e => ?_, fun x y e => ?_⟩
  · by_cases hx : x = b
    · subst hx; right
      rcases d x with k | k
      · rw [show m1 x = some o from a] at k; cases k
      · exact k
    · left; simp [hx]
  · by_cases hx : x = b
    · subst hx; simp only [if_true] at e; rw [← e]; exact hb
    · simp only [if_neg hx] at e; cases e
  · have hx : b ≠ x := by
      rintro rfl
      rcases d b with k | k
      · rw [show m1 b = some o from a] at k; cases k
      · rw [k] at e; cases e
    show h'[x]? = some y
    rw [hk x hx]; exact s2 x y e
/-- make: a row of noughts. -/
theorem Hs.make {P : Program} {t e : TypeId} {bz n c : Nat} {z : Value} {k k' : IntKind} {i j : Int} (H : Hs h L) (E : Elem P t e 1 bz z) (hi : i = n) (hj : j = c) (hnc : n ≤ c) (hc : bz * c ≤ 2 ^ 48) (hc2 : c < 2 ^ 63) {K : Value → Heap → Prop}
    (kk : ∀ h' b, Hs h' (pt b e (List.replicate c z) :: L) → K (.slice (some ⟨b, 0, none⟩) n c) h') (hz : z.cells = #[z] := by rfl) : hwp P (Instr.makeSlice t (.int k i) (.int k' j)) K h := by
  subst hi hj
  exact hwp_make E hz hnc hc hc2 (kk _ _ H.new)
/-- copy into a block of one's own. -/
theorem Hs.copy {P : Program} {t t2 ty e bt : TypeId} {sz bz b n c m c2 : Nat} {z : Value} {a2 : Option Addr} {xs ys : List Value} {off : Nat} (H : Hs h (pt b bt xs :: L)) (E : Elem P t e sz bz z) (hn : off + ys.length ≤ xs.length) (hr : Rd h a2 ys) (hn0 : a2 = none → m = 0) (hy : ys.length = min m n * sz) (hv : ∀ v ∈ ys, oneC v = true) {K : Value → Heap → Prop}
    (kk : ∀ h', Hs h' (pt b bt (xs.take off ++ ys ++ xs.drop (off + ys.length)) :: L) → K (.int .i64 (min m n : Nat)) h') :
    hwp P (Builtin.copy_ #[t, t2] ty #[.slice (some ⟨b, off, none⟩) n c, .slice a2 m c2]) K h :=
  hwp_copy E H.blk hy hr hn0 hn hv fun h' hk hs hb => kk h' (H.chg hk hb)
/-- An element of one cell is looked at. -/
theorem idx {P : Program} {t e : TypeId} {bz : Nat} {z : Value} (E : Elem P t e 1 bz z) {a : Option Addr} {n c : Nat} {k : IntKind} {i : Int} {xs : List Value} {v : Value} (hr : Rd h a xs) (h0 : 0 ≤ i) (hi : i < n) (hv : xs[i.toNat]? = some v)
    {R : Addr → Heap → Prop} (K : ∀ t, cellH h t = some v → R t h) : hwp P (Instr.indexAt t (.slice a n c) (.int k i)) (fun u h1 => ∃ t, u = .pointer (some t) ∧ R t h1) h := by
  obtain ⟨ad, rfl, hc⟩ := hr _ _ hv
  refine hwp_index E h0 hi ⟨_, rfl, K _ ?_⟩
  rw [Nat.mul_one]; exact hc
/-- An element of several cells is looked at. -/
theorem idxs {P : Program} {t e : TypeId} {sz bz : Nat} {z : Value} (E : Elem P t e sz bz z) {a : Option Addr} {n c : Nat} {k : IntKind} {i : Int} {xs vs : List Value} (hr : Rd h a xs) (h0 : 0 ≤ i) (hi : i < n) (hne : vs ≠ []) (hv : ∀ (j : Nat) v, vs[j]? = some v → xs[i.toNat * sz + j]? = some v)
    {R : Addr → Heap → Prop} (K : ∀ t, rdCells h t 0 vs → R t h) : hwp P (Instr.indexAt t (.slice a n c) (.int k i)) (fun u h1 => ∃ t, u = .pointer (some t) ∧ R t h1) h := by
  obtain ⟨v0, l0, rfl⟩ := List.exists_cons_of_ne_nil hne
  obtain ⟨ad, rfl, hc⟩ := hr _ _ (hv 0 v0 rfl)
  refine hwp_index E h0 hi ⟨_, rfl, K _ ?_⟩
  have key : ∀ (ws : List Value) (j0 : Nat), (∀ (j : Nat) v, ws[j]? = some v → (v0 :: l0)[j0 + j]? = some v) → rdCells h (ad.add (i.toNat * sz)) j0 ws := by
    intro ws
    induction ws with
    | nil => exact fun _ _ => trivial
    | cons w ws ih =>
      intro j0 hw
      refine ⟨?_, ih (j0 + 1) fun j v hj => ?_⟩
      · rw [add_add]; exact hr.cell (hv j0 w (by have := hw 0 w rfl; simpa using this))
      · have := hw (j + 1) v (by simpa using hj)
        rwa [show j0 + (j + 1) = j0 + 1 + j by omega] at this
  exact key _ 0 fun j v hj => by simpa using hj
/-- A row of cells is written. -/
theorem Hs.wrs_at {b : Nat} {t : TypeId} {K : Heap → Prop} {off : Nat} : ∀ (vs : List Value) {i : Nat} {xs : List Value} {h : Heap}, Hs h (pt b t xs :: L) → off + i + vs.length ≤ xs.length → (∀ v ∈ vs, oneC v = true) →
    (∀ h', Hs h' (pt b t (xs.take (off + i) ++ vs ++ xs.drop (off + i + vs.length)) :: L) → K h') → wrCells ⟨b, off, none⟩ i vs K h := by
  intro vs
  induction vs with
  | nil => intro i xs h H hl hv kk; exact kk h (by simpa using H)
  | cons v vs ih =>
    intro i xs h H hl hv kk
    simp only [List.length_cons] at hl
    refine H.sto (a := Addr.add ⟨b, off, none⟩ i) (off := off + i) (by omega) (fun h1 H1 => ?_) (hv v (by simp)) (add_mk _ _ _)
    refine ih H1 (by simp; omega) (fun u hu => hv u (by simp [hu])) fun h2 H2 => kk h2 ?_
    have e : (xs.set (off + i) v).take (off + (i + 1)) ++ vs ++ (xs.set (off + i) v).drop (off + (i + 1) + vs.length) = xs.take (off + i) ++ (v :: vs) ++ xs.drop (off + i + (v :: vs).length) := by
      rw [List.drop_set, if_pos (by omega), List.take_set, ← Nat.add_assoc, List.take_succ_eq_append_getElem (by omega), List.set_append_right _ _ (by simp; omega)]
      simp only [List.length_take, Nat.min_eq_left (show off + i ≤ xs.length by omega), Nat.sub_self, List.set_cons_zero, List.append_assoc, List.cons_append, List.nil_append, List.length_cons]
      congr 4; omega
    rw [e] at H2; exact H2
theorem Hs.wrs {b : Nat} {t : TypeId} {K : Heap → Prop} {vs xs : List Value} {a : Addr} (H : Hs h (pt b t xs :: L)) (kk : ∀ h', Hs h' (pt b t vs :: L) → K h') (hl : vs.length = xs.length := by rfl) (hv : ∀ v ∈ vs, oneC v = true := by simp [oneC]) (ha : a = ⟨b, 0, none⟩ := by rfl) : wrCells a 0 vs K h := by
  subst ha
  refine Hs.wrs_at vs H (by omega) hv fun h' H' => kk h' ?_
  simpa [hl] using H'
theorem Hs.wrso {b : Nat} {t : TypeId} {K : Heap → Prop} {vs xs : List Value} {a : Addr} (off : Nat) (H : Hs h (pt b t xs :: L)) (kk : ∀ h', Hs h' (pt b t (xs.take off ++ vs ++ xs.drop (off + vs.length)) :: L) → K h') (hl : off + vs.length ≤ xs.length) (hv : ∀ v ∈ vs, oneC v = true := by simp [oneC]) (ha : a = ⟨b, off, none⟩ := by rfl) : wrCells a 0 vs K h := by
  subst ha
  exact Hs.wrs_at vs H (by omega) hv fun h' H' => kk h' (by simpa using H')
/-- An element of a row of elements. -/
theorem flat_len {α : Type} {φ : α → List Value} {sz : Nat} (hφ : ∀ x, (φ x).length = sz) (l : List α) : (l.flatMap φ).length = l.length * sz := by
  induction l with
  | nil => simp
  | cons x l ih => simp [List.flatMap_cons, hφ, ih, Nat.add_mul, Nat.add_comm]
theorem flat_get {α : Type} {φ : α → List Value} {sz : Nat} (hφ : ∀ x, (φ x).length = sz) {l : List α} {i : Nat} {x : α} (hx : l[i]? = some x) : ∀ (j : Nat) (v : Value), (φ x)[j]? = some v → (l.flatMap φ)[i * sz + j]? = some v := by
  intro j v hv
  have hj : j < sz := by rw [← hφ x]; exact (List.getElem?_eq_some_iff.1 hv).1
  induction l generalizing i with
  | nil => simp at hx
  | cons y l ih =>
    rw [List.flatMap_cons]
    cases i with
    | zero =>
      simp only [List.getElem?_cons_zero, Option.some.injEq] at hx; subst hx
      rw [Nat.zero_mul, Nat.zero_add, List.getElem?_append_left (by rw [hφ]; exact hj)]; exact hv
    | succ i =>
      rw [List.getElem?_append_right (by rw [hφ, Nat.add_mul]; omega), hφ, show (i + 1) * sz + j - sz = i * sz + j by rw [Nat.add_mul]; omega]
      exact ih (by simpa using hx)
/-- An element of a slice of such is looked at. -/
theorem idxf {α : Type} {φ : α → List Value} {P : Program} {t e : TypeId} {sz bz : Nat} {z : Value} (E : Elem P t e sz bz z) {a : Option Addr} {n c : Nat} {k : IntKind} {i : Int} {l : List α} {x : α} (hr : Rd h a (l.flatMap φ)) (hφ : ∀ x, (φ x).length = sz) (hs : 0 < sz) (h0 : 0 ≤ i) (hi : i < n) (hx : l[i.toNat]? = some x)
    {R : Addr → Heap → Prop} (K : ∀ t, rdCells h t 0 (φ x) → R t h) : hwp P (Instr.indexAt t (.slice a n c) (.int k i)) (fun u h1 => ∃ t, u = .pointer (some t) ∧ R t h1) h :=
  idxs E hr h0 hi (fun e => by have := hφ x; rw [e] at this; simp at this; omega) (flat_get hφ hx) K
/-- Two parts are two blocks. -/
theorem Hs.ne {b c : Nat} {o p : Obj} (H : Hs h (ob b o :: ob c p :: L)) : b ≠ c := by
  obtain ⟨m1, m2, a, ⟨m3, m4, b', _, _, s3, _⟩, d, _, _⟩ := H
  rintro rfl
  rcases d b with e | e
  · rw [show m1 b = some o from a] at e; cases e
  · rw [s3 _ _ b'] at e; cases e

/-! ### Slices with room -/
def own (a : Option Addr) (n c : Nat) (e : TypeId) (sz : Nat) (xs : List Value) : Assn := fun m =>
  xs.length = n * sz ∧ n ≤ c ∧ ((a = none ∧ c = 0) ∨ ∃ b off cs, a = some ⟨b, off, none⟩ ∧ m b = some (.cells cs e (0, 0)) ∧ off + c * sz ≤ cs.size ∧ ∀ i, i < xs.length → cs[off + i]? = xs[i]?)
section
variable {a : Option Addr} {n c sz : Nat} {e : TypeId} {xs : List Value}
theorem Hs.Own (H : Hs h (own a n c e sz xs :: L)) : Own h a n c e sz xs := H.fact fun m k s => by
  obtain ⟨h1, h2, h3 | ⟨b, off, cs, ha, hb, hc, hx⟩⟩ := k
  · exact ⟨h1, h2, .inl h3⟩
  · exact ⟨h1, h2, .inr ⟨b, off, cs, ha, s _ _ hb, hc, hx⟩⟩
theorem Hs.rd (H : Hs h (own a n c e sz xs :: L)) : Rd h a xs := H.Own.rd
theorem Hs.own_len (H : Hs h (own a n c e sz xs :: L)) : xs.length = n * sz := H.Own.1
theorem Hs.own_le (H : Hs h (own a n c e sz xs :: L)) : n ≤ c := H.Own.2.1
theorem Gv.own : Gv (own a n c e sz xs :: L) a xs := fun h H => H.rd
theorem Hs.own_nil (H : Hs h L) (e : TypeId) (sz : Nat) : Hs h (own none 0 0 e sz [] :: L) :=
  ⟨fun _ => none, fun b => h[b]?, ⟨by simp, Nat.le_refl _, .inl ⟨rfl, rfl⟩⟩, H, fun _ => .inl rfl, (fun _ _ e => nomatch e), .refl _⟩
theorem Hs.pt_own {b : Nat} {ys : List Value} (H : Hs h (pt b e ys :: L)) (off : Nat) (hy : xs = (ys.drop off).take (n * sz)) (hl : xs.length = n * sz) (hnc : n ≤ c) (hc : off + c * sz ≤ ys.length) : Hs h (own (some ⟨b, off, none⟩) n c e sz xs :: L) :=
  H.mono fun m k => ⟨hl, hnc, .inr ⟨b, off, ys.toArray, rfl, k, by simpa using hc, fun i hi => by
    rw [hy]
    simp only [List.getElem?_toArray, List.getElem?_take, List.getElem?_drop]
    rw [if_pos (by omega)]⟩⟩
theorem Hs.pt_all {b : Nat} {ys : List Value} (H : Hs h (pt b e ys :: L)) (hl : ys.length = n) : Hs h (HW.own (some ⟨b, 0, none⟩) n n e 1 ys :: L) :=
  H.pt_own 0 (by rw [List.drop_zero, List.take_of_length_le (by omega)]) (by omega) (Nat.le_refl _) (by omega)
/-- From a row that is owned back to its block. -/
theorem Hs.own_pt (H : Hs h (own a n c e sz xs :: L)) (hc : c * sz ≠ 0) : ∃ b off ys, a = some ⟨b, off, none⟩ ∧ off + c * sz ≤ ys.length ∧ xs = (ys.drop off).take (n * sz) ∧ Hs h (pt b e ys :: L) := by
  obtain ⟨m1, m2, ⟨h1, h2, h3⟩, l, d, s1, s2⟩ := H
  rcases h3 with ⟨_, rfl⟩ | ⟨b, off, cs, ha, hb, hcs, hx⟩
  · simp at hc
  · have h5 := Nat.mul_le_mul_right sz h2
    refine ⟨b, off, cs.toList, ha, by simpa using hcs, ?_, m1, m2, by simpa [pt, ob] using hb, l, d, s1, s2⟩
    apply List.ext_getElem?
    intro i
    simp only [List.getElem?_take, List.getElem?_drop, Array.getElem?_toList]
    split
    · rw [hx i (by omega)]
    · rw [List.getElem?_eq_none (by omega)]
theorem Hs.append {P : Program} {t t2 ty : TypeId} {bz m : Nat} {z x : Value} {ut : TypeDesc} {ys : List Value} {K : Value → Heap → Prop} (H : Hs h (HW.own a n c e sz xs :: L)) (E : Elem P t e sz bz z) (hx : Src h x m sz ys) (hv : ∀ v ∈ ys, oneC v = true)
    (k : ∀ h' a' c', Hs h' (HW.own a' (n + m) c' e sz (xs ++ ys) :: L) → K (.slice a' (n + m) c') h')
    (hm : (2 * (n + m) + 192) * bz ≤ 2 ^ 48) (hm0 : n + m < 2 ^ 62) (hz : z.cells.size = sz := by rfl) (hu : P.underlying t2 = some ut := by kernel_rfl) (hnu : notInt ut = true := by rfl) : hwp P (Builtin.append_ #[t, t2] ty #[.slice a n c, x]) K h := by
  obtain ⟨m1, m2, k1, l, d, s1, s2⟩ := H
  have ho : HW.Own h a n c e sz xs := by
    obtain ⟨h1, h2, h3 | ⟨b, off, cs, ha, hb, hc, hx⟩⟩ := k1
    · exact ⟨h1, h2, .inl h3⟩
    · exact ⟨h1, h2, .inr ⟨b, off, cs, ha, s1 _ _ hb, hc, hx⟩⟩
  refine hwp_append E hz hu hnu ho hx hv hm hm0 ?_
  intro h' a' c' hs hk ho' hb' hfar
  refine k h' a' c' ?_
  -- the other part lies as it lay
  have hm2 : Sub m2 (fun b => h'[b]?) := by
    intro b o hbo
    have hlt := lt_of_get (s2 b o hbo)
    refine (hk b hlt ?_).trans (s2 b o hbo)
    intro ad had hadb
    obtain ⟨_, _, ⟨h1, h2⟩ | ⟨b1, off1, cs1, ha1, hb1, _⟩⟩ := k1
    · rw [h1] at had; cases had
    · rw [had] at ha1; cases ha1
      subst hadb
      rcases d b1 with q | q
      · rw [hb1] at q; cases q
      · rw [hbo] at q; cases q
  obtain ⟨g1, g2, g3⟩ := ho'
  rcases g3 with g3 | ⟨b, off, cs, ha, hb, hc, hxx⟩
  · exact ⟨fun _ => none, m2, ⟨g1, g2, .inl g3⟩, l, fun _ => .inl rfl, (fun _ _ e => nomatch e), hm2⟩
  · refine ⟨fun x => if x = b then some (.cells cs e (0, 0)) else none, m2, ⟨g1, g2, .inr ⟨b, off, cs, ha, by simp, hc, hxx⟩⟩, l, fun x => ?_, fun x y e => ?_, hm2⟩
    · by_cases hxb : x = b
      · right; subst hxb
        cases hq : m2 x with
        | none => rfl
        | some o =>
          exfalso
          have hlt := lt_of_get (s2 x o hq)
          rcases (hb' _ ha).2 with ⟨ad0, h1, h2⟩ | h1
          · obtain ⟨_, _, ⟨q1, q2⟩ | ⟨b1, off1, cs1, ha1, hb1, _⟩⟩ := k1
            · rw [q1] at h1; cases h1
            · rw [h1] at ha1; cases ha1
              simp only at h2; subst h2
              rcases d b1 with q | q
              · rw [hb1] at q; cases q
              · rw [hq] at q; cases q
          · simp only at h1; omega
      · left; simp [hxb]
    · by_cases hx' : x = b
      · subst hx'; simp only [if_true] at e; rw [← e]; exact hb
      · simp only [if_neg hx'] at e; cases e
/-- append of a slice of the same type. -/
theorem Hs.app_sl {P : Program} {t ty : TypeId} {bz m c2 : Nat} {z : Value} {a2 : Option Addr} {ys : List Value} {K : Value → Heap → Prop} (H : Hs h (HW.own a n c e sz xs :: L)) (E : Elem P t e sz bz z) (hr : Rd h a2 ys) (hl : ys.length = m * sz) (hn0 : a2 = none → m = 0) (hv : ∀ v ∈ ys, oneC v = true)
    (k : ∀ h' a' c', Hs h' (HW.own a' (n + m) c' e sz (xs ++ ys) :: L) → K (.slice a' (n + m) c') h')
    (hm : (2 * (n + m) + 192) * bz ≤ 2 ^ 48) (hm0 : n + m < 2 ^ 62) (hz : z.cells.size = sz := by rfl) : hwp P (Builtin.append_ #[t, t] ty #[.slice a n c, .slice a2 m c2]) K h :=
  H.append E (x := .slice a2 m c2) ⟨rfl, hl, hr, hn0⟩ hv k hm hm0 hz (hu := E.und) rfl
/-- append of a string's bytes. -/
theorem Hs.app_str {P : Program} {t t2 ty : TypeId} {bz : Nat} {z : Value} {s : ByteArray} {K : Value → Heap → Prop} (H : Hs h (HW.own a n c e 1 xs :: L)) (E : Elem P t e 1 bz z) (hu : P.underlying t2 = some .string)
    (k : ∀ h' a' c', Hs h' (HW.own a' (n + s.size) c' e 1 (xs ++ s.data.toList.map fun b => .int .u8 b.toNat) :: L) → K (.slice a' (n + s.size) c') h')
    (hm : (2 * (n + s.size) + 192) * bz ≤ 2 ^ 48) (hm0 : n + s.size < 2 ^ 62) (hz : z.cells.size = 1 := by rfl) : hwp P (Builtin.append_ #[t, t2] ty #[.slice a n c, .string s]) K h :=
  H.append E (x := .string s) (ys := s.data.toList.map fun b => .int .u8 b.toNat) ⟨rfl, rfl, rfl⟩ (fun v hv => by simp only [List.mem_map] at hv; obtain ⟨b, _, rfl⟩ := hv; rfl) k hm hm0 hz (hu := hu) rfl
/-- append of a few values, laid as a row of their own first. -/
theorem Hs.app_vals {P : Program} {t ty : TypeId} {bz m : Nat} {z : Value} {cs : Array Value} {ys : List Value} {K : Value → Heap → Prop} (H : Hs h (HW.own a n c e sz xs :: L)) (E : Elem P t e sz bz z) (hcs : cs = ys.toArray) (hl : ys.length = m * sz) (hv : ∀ v ∈ ys, oneC v = true)
    (k : ∀ h' a' c', Hs h' (HW.own a' (n + m) c' e sz (xs ++ ys) :: L) → K (.slice a' (n + m) c') h')
    (hm : (2 * (n + m) + 192) * bz ≤ 2 ^ 48) (hm0 : n + m < 2 ^ 62) (hz : z.cells.size = sz := by rfl) : hwp P (Builtin.append_ #[t, t] ty #[.slice a n c, .slice (some ⟨h.size, 0, none⟩) m m]) K (h.push (.cells cs e (0, 0))) := by
  subst hcs
  have H1 : Hs (h.push (.cells ys.toArray e (0, 0))) (HW.own a n c e sz xs :: pt h.size e ys :: L) := (H.push _).m1
  have hx : Src (h.push (.cells ys.toArray e (0, 0))) (.slice (some ⟨h.size, 0, none⟩) m m) m sz ys := ⟨rfl, hl, H1.m1.ptrd (by simp), fun h => by cases h⟩
  exact H1.append E hx hv (fun h' a' c' H' => k h' a' c' (H'.mono_tl fun _ l => Sp.tl l)) hm hm0 hz (hu := E.und)
theorem Hs.setAt (H : Hs h (own a n c e sz xs :: L)) {b off : Nat} (ha : a = some ⟨b, off, none⟩) {i : Nat} (hi : i < xs.length) {v : Value} {K : Heap → Prop} (hv : oneC v = true) (k : ∀ h', Hs h' (own a n c e sz (xs.set i v) :: L) → K h') : wr ⟨b, off + i, none⟩ v K h := by
  have hlen := H.own_len
  have hle := H.own_le
  have h5 := Nat.mul_le_mul_right sz hle
  obtain ⟨b1, off1, ys, ha1, hc1, hx1, H1⟩ := H.own_pt (by omega)
  rw [ha] at ha1; cases ha1
  refine H1.sto (off := off + i) (by omega) ?_ hv
  intro h' H'
  refine k h' ?_
  subst ha
  refine H'.pt_own off ?_ (by simpa using hlen) hle (by simpa using hc1)
  rw [hx1, List.drop_set, if_neg (by omega), List.take_set, show off + i - off = i by omega]
/-- A cell of an owned row of single cells is written. -/
theorem Hs.idx_set {P : Program} {t : TypeId} {bz : Nat} {z : Value} (E : Elem P t e 1 bz z) {k : IntKind} {i : Int} (H : Hs h (own a n c e 1 xs :: L)) (h0 : 0 ≤ i) (hi : i < n) {v : Value} (hv : oneC v = true) {R : Heap → Prop}
    (K : ∀ h', Hs h' (own a n c e 1 (xs.set i.toNat v) :: L) → R h') :
    hwp P (Instr.indexAt t (.slice a n c) (.int k i)) (fun u h1 => ∃ t, u = .pointer (some t) ∧ wr t v R h1) h := by
  have hlen := H.own_len
  have hle := H.own_le
  obtain ⟨b, off, ys, rfl, hc1, hx1, H1⟩ := H.own_pt (by omega)
  refine hwp_index E h0 hi ⟨_, rfl, ?_⟩
  rw [Nat.mul_one, add_mk]
  exact H.setAt rfl (by omega) hv K
end
end
end Go.HW

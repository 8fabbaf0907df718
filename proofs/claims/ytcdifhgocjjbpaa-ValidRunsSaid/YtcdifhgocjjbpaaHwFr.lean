/- A frame that is kept over a range over a function: the exact objects. -/
import Derived.Test.YtcdifhgocjjbpaaHwSl
import Derived.Test.YtcdifhgocjjbpaaHwNum
import Derived.Test.YtcdifhgocjjbpaaHwMaps
set_option linter.unusedVariables false
namespace Go.HW
open Go
/-- Just these objects, and maybe more. -/
def Em (m : PM) : Assn := fun m' => Sub m m'
/-- What is no deferred block. -/
def nd (m : PM) : PM := fun b => match m b with | some o => if isDef o then none else some o | none => none
theorem nd_sub (m : PM) : Sub (nd m) m := fun b o e => by
  unfold nd at e
  split at e
  · split at e
    · cases e
    · rename_i h _; rw [h]; exact e
  · cases e
theorem nd_not {m : PM} {b : Nat} {o : Obj} (e : nd m b = some o) : isDef o = false := by
  unfold nd at e
  split at e
  · split at e
    · cases e
    · rename_i hh; cases e; simpa using hh
  · cases e
theorem Gv.em {L M : List Assn} {m : PM} {a : Option Addr} {xs : List Value} (g : Gv L a xs) (s : Sp L m) : Gv (Em m :: M) a xs := fun h H => by
  obtain ⟨m1, m2, e, _, _, s1, _⟩ := H
  exact g h (Sp.sub s (e.trans s1))
theorem Hs.em {L : List Assn} {h : Heap} (H : Hs h L) : ∃ m, Sp L m ∧ Sub m (fun b => h[b]?) ∧ Hs h [Em m] :=
  ⟨fun b => h[b]?, H, .refl _, fun b => h[b]?, fun _ => none, Sub.refl _, trivial, fun _ => .inr rfl, .refl _, fun _ _ e => nomatch e⟩
theorem Hs.takes {L M : List Assn} {A : Assn} {h h1 h2 : Heap} {m : PM} (H : Hs h1 (A :: Em m :: M)) (s : Sp L m) (s0 : Sub m (fun b => h[b]?)) (t : Takes h1 h2) (k : KeepD h h2) (hA : ∀ m, A m → A (nd m)) : Hs h2 (A :: L) := by
  obtain ⟨m1, m2, a, ⟨m3, m4, e, _, _, s3, _⟩, d, s1, s2⟩ := H
  refine ⟨nd m1, m, hA _ a, s, ((d.sub (e.trans s3)).symm.sub (nd_sub _)).symm, fun b o eb => ?_, fun b o eb => ?_⟩
  · exact t.get (s1 _ _ (nd_sub _ _ _ eb)) (nd_not eb)
  · by_cases hd : isDef o = true
    · exact k b o (s0 _ _ eb) hd
    · exact t.get (s2 _ _ (s3 _ _ (e _ _ eb))) (by simpa using hd)
theorem Hs.takes0 {L M : List Assn} {h h1 h2 : Heap} {m : PM} (H : Hs h1 (Em m :: M)) (s : Sp L m) (s0 : Sub m (fun b => h[b]?)) (t : Takes h1 h2) (k : KeepD h h2) : Hs h2 L := by
  obtain ⟨m1, m2, e, _, d, s1, _⟩ := H
  refine Sp.sub s fun b o eb => ?_
  by_cases hd : isDef o = true
  · exact k b o (s0 _ _ eb) hd
  · exact t.get (s1 _ _ (e _ _ eb)) (by simpa using hd)
theorem nd_pt {b : Nat} {t : TypeId} {xs : List Value} {m : PM} (h : pt b t xs m) : pt b t xs (nd m) := by
  unfold pt ob at *
  unfold nd; rw [h]; rfl
theorem nd_own {a : Option Addr} {n c : Nat} {e : TypeId} {sz : Nat} {xs : List Value} {m : PM} (h : own a n c e sz xs m) : own a n c e sz xs (nd m) := by
  unfold own at *
  refine ⟨h.1, h.2.1, h.2.2.imp id ?_⟩
  rintro ⟨b, off, ys, h1, h2, h3, h4⟩
  refine ⟨b, off, ys, h1, ?_, h3, h4⟩
  unfold nd; rw [h2]; rfl
theorem nd_mp {α β : Type} [DecidableEq α] {κ : α → Value} {ν : β → Value} {r : Nat} {l : List (α × β)} {m : PM} (h : mp κ ν r l m) : mp κ ν r l (nd m) := by
  obtain ⟨bs, clock, h1, h2⟩ := h
  refine ⟨bs, clock, h1, ?_⟩
  unfold nd; rw [h2]; rfl
theorem nd_le {m m' : PM} (s : Sub m m') : Sub (nd m) (nd m') := fun b o e => by
  have h1 := nd_sub _ _ _ e
  have h2 := s _ _ h1
  unfold nd; rw [h2]
  simp only [nd_not e]
  rfl
/-- Assertions that look at no deferred block. -/
def Ndc (As : List Assn) : Prop := ∀ A ∈ As, ∀ m, A m → A (nd m)
theorem nd_sp : ∀ {As : List Assn} {m : PM}, Ndc As → Sp As m → Sp As (nd m)
  | [], m, _, _ => trivial
  | A :: As, m, hA, h => by
    obtain ⟨m1, m2, a, l, d, s1, s2⟩ := h
    exact ⟨nd m1, nd m2, hA A (List.mem_cons_self ..) _ a, nd_sp (fun B hB => hA B (List.mem_cons_of_mem _ hB)) l, ((d.sub (nd_sub _)).symm.sub (nd_sub _)).symm, nd_le s1, nd_le s2⟩
theorem Hs.em2 {As L : List Assn} {h : Heap} (H : Hs h (As ++ L)) : ∃ m, Sp L m ∧ Sub m (fun b => h[b]?) ∧ Hs h (As ++ [Em m]) := by
  obtain ⟨m1, m2, a, l, d, s1, s2⟩ := Hs.app.2 H
  exact ⟨m2, l, s2, Hs.app.1 ⟨m1, m2, a, ⟨m2, fun _ => none, Sub.refl _, trivial, fun _ => .inr rfl, .refl _, fun _ _ e => nomatch e⟩, d, s1, s2⟩⟩
theorem Hs.takes2 {As L M : List Assn} {h h1 h2 : Heap} {m : PM} (H : Hs h1 (As ++ Em m :: M)) (s : Sp L m) (s0 : Sub m (fun b => h[b]?)) (t : Takes h1 h2) (k : KeepD h h2) (hA : Ndc As) : Hs h2 (As ++ L) :=
  Hs.app.1 (Hs.takes (Hs.app.2 H) s s0 t k fun m q => nd_sp hA q)
end Go.HW

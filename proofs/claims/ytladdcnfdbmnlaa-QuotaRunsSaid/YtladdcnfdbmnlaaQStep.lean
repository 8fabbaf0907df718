/- One step of a script, on the book and on the ref. -/
import Derived.Test.YtladdcnfdbmnlaaQRef4
set_option linter.unusedVariables false
set_option linter.unusedSimpArgs false
namespace Go.Proofs.Ytladdcnfdbmnlaa
open Go Go.HW
variable {h : Heap} {M : List Assn} {p r n c : Nat} {blks : List Nat} {a : Option Addr} {s : QS} {Q : Value → Heap → Prop}
structure Grow (s t : QS) : Prop where
  ts : t.ts = s.ts
  hd : t.hd.length ≤ s.hd.length + 1
  last : t.last ≤ s.last + 1
  pos : (∀ x ∈ s.hd, 0 < x.id) → ∀ x ∈ t.hd, 0 < x.id
theorem Grow.refl (s : QS) : Grow s s := ⟨rfl, Nat.le_succ _, Nat.le_succ _, fun h => h⟩
/-- The tenants that the ref reads. -/
structure Tn (M : List Assn) (a : Option Addr) (n : Nat) (s : QS) : Prop where
  hr : Gv M a (s.ts.flatMap tenV)
  hn : s.ts.length = n
  hmax : n < 2 ^ 40
  hl : s.hd.length < 2 ^ 40
  hlast : s.last < 2 ^ 40
theorem free_len (s : QS) (id : Int) : (s.free id).hd.length ≤ s.hd.length := List.length_filter_le _ _
theorem Set2 {nm : ByteArray} {u : Int × Int} (T : Tn M a n s) (H : Hs h (Bk p blks s :: Rk r a n c s :: M))
    (kk : ∀ h' t s1, Grow s s1 → Hs h' (Bk p blks s1 :: Rk r a n c s :: M) → (∀ {R : Value → Heap → Prop}, (∀ h'', Hs h'' (Bk p blks s1 :: Rk r a n c s1 :: M) → R (.int .i64 t) h'') → SpecH PP F_ref17_Book_Set [P_ r, .string nm, .agg #[.int .i64 u.1, .int .i64 u.2]] h' R) → Q (.int .i64 t) h') :
    SpecH PP F_quota_Book_Set [P_ p, .string nm, .agg #[.int .i64 u.1, .int .i64 u.2]] h Q := by
  have hm : n < 2 ^ 62 := by have := T.hmax; omega
  refine Set_spec H (fun h' H' e => kk h' _ s (.refl s) H' fun {R} g => ?_) (fun h' k H' e hb => kk h' _ s (.refl s) H' fun {R} g => ?_) (fun h' k H' e hb => kk h' _ (s.set k u) ⟨rfl, Nat.le_succ _, Nat.le_succ _, fun h => h⟩ H' fun {R} g => ?_)
  · exact rSet_spec T.hr.cons T.hn hm H'.m1 (fun h'' H'' _ => g h'' H''.m1) (fun _ k _ e' => by rw [e] at e'; cases e') (fun _ k _ e' => by rw [e] at e'; cases e')
  · exact rSet_spec T.hr.cons T.hn hm H'.m1 (fun _ _ e' => by rw [e] at e'; cases e') (fun h'' k H'' e' _ => g h'' H''.m1) (fun _ k _ e' hb' => absurd hb' hb)
  · exact rSet_spec T.hr.cons T.hn hm H'.m1 (fun _ _ e' => by rw [e] at e'; cases e') (fun _ k _ e' hb' => absurd hb hb') (fun h'' k' H'' e' _ => by rw [e] at e'; cases e'; exact g h'' H''.m1)
theorem Use2 {nm : ByteArray} (T : Tn M a n s) (H : Hs h (Bk p blks s :: Rk r a n c s :: M))
    (kk : ∀ h' x y t, Hs h' (Bk p blks s :: Rk r a n c s :: M) → (∀ {R : Value → Heap → Prop} {h2 : Heap} {M2 : List Assn}, Tn M2 a n s → Hs h2 (Bk p blks s :: Rk r a n c s :: M2) → (∀ h'', Hs h'' (Bk p blks s :: Rk r a n c s :: M2) → R (.tuple #[.agg #[.int .i64 x, .int .i64 y], .int .i64 t]) h'') → SpecH PP F_ref17_Book_Use [P_ r, .string nm] h2 R) → Q (.tuple #[.agg #[.int .i64 x, .int .i64 y], .int .i64 t]) h') :
    SpecH PP F_quota_Book_Use [P_ p, .string nm] h Q := by
  have hm : n < 2 ^ 62 := by have := T.hmax; omega
  refine Use_spec H fun h' H' => ?_
  cases e : fnd s.ts nm with
  | none => exact kk h' _ _ _ H' fun {R h2 M2} T2 H2 g => rUse_spec T2.hr.cons T2.hn hm H2.m1 fun h'' H'' => by rw [e]; exact g h'' H''.m1
  | some k => exact kk h' _ _ _ H' fun {R h2 M2} T2 H2 g => rUse_spec T2.hr.cons T2.hn hm H2.m1 fun h'' H'' => by rw [e]; exact g h'' H''.m1
theorem Left2 {nm : ByteArray} (T : Tn M a n s) (H : Hs h (Bk p blks s :: Rk r a n c s :: M))
    (kk : ∀ h' x y t, Hs h' (Bk p blks s :: Rk r a n c s :: M) → (∀ {R : Value → Heap → Prop} {h2 : Heap} {M2 : List Assn}, Tn M2 a n s → Hs h2 (Bk p blks s :: Rk r a n c s :: M2) → (∀ h'', Hs h'' (Bk p blks s :: Rk r a n c s :: M2) → R (.tuple #[.agg #[.int .i64 x, .int .i64 y], .int .i64 t]) h'') → SpecH PP F_ref17_Book_Left [P_ r, .string nm] h2 R) → Q (.tuple #[.agg #[.int .i64 x, .int .i64 y], .int .i64 t]) h') :
    SpecH PP F_quota_Book_Left [P_ p, .string nm] h Q := by
  have hm : n < 2 ^ 62 := by have := T.hmax; omega
  have hl : s.hd.length < 2 ^ 62 := by have := T.hl; omega
  refine Left_spec H fun h' H' => ?_
  cases e : fnd s.ts nm with
  | none => exact kk h' _ _ _ H' fun {R h2 M2} T2 H2 g => rLeft_spec T2.hr.cons T2.hn hm hl H2.m1 fun h'' H'' => by rw [e]; exact g h'' H''.m1
  | some k => exact kk h' _ _ _ H' fun {R h2 M2} T2 H2 g => rLeft_spec T2.hr.cons T2.hn hm hl H2.m1 fun h'' H'' => by rw [e]; exact g h'' H''.m1
theorem Reserve2 {nm : ByteArray} {mb me : Int} (T : Tn M a n s) (H : Hs h (Bk p blks s :: Rk r a n c s :: M))
    (kk : ∀ h' x t s1, Grow s s1 → Hs h' (Bk p blks s1 :: Rk r a n c s :: M) → (∀ {R : Value → Heap → Prop}, (∀ h'', Hs h'' (Bk p blks s1 :: Rk r a n c s1 :: M) → R (.tuple #[.int .i64 x, .int .i64 t]) h'') → SpecH PP F_ref17_Book_Reserve [P_ r, .string nm, .agg #[.int .i64 mb, .int .i64 me]] h' R) → Q (.tuple #[.int .i64 x, .int .i64 t]) h') :
    SpecH PP F_quota_Book_Reserve [P_ p, .string nm, .agg #[.int .i64 mb, .int .i64 me]] h Q := by
  have hm : n < 2 ^ 62 := by have := T.hmax; omega
  refine Reserve_spec H T.hlast (fun h' H' e => kk h' _ _ s (.refl s) H' fun {R} g => ?_) (fun h' k H' e hb => kk h' _ _ s (.refl s) H' fun {R} g => ?_) (fun h' k H' e hb hl => kk h' _ _ s (.refl s) H' fun {R} g => ?_) (fun h' k H' e hb hl => kk h' _ _ (s.res k mb me) ⟨rfl, by simp [QS.res], Nat.le_refl _, fun h x hx => by rcases List.mem_append.1 hx with hx | hx; exact h x hx; rw [List.mem_singleton.1 hx]; exact Nat.succ_pos _⟩ H' fun {R} g => ?_)
  · exact rReserve_spec T.hr.cons T.hn hm T.hl T.hlast H'.m1 (fun h'' H'' _ => g h'' H''.m1) (fun _ k _ e' => by rw [e] at e'; cases e') (fun _ k _ e' => by rw [e] at e'; cases e') (fun _ k _ e' => by rw [e] at e'; cases e')
  · exact rReserve_spec T.hr.cons T.hn hm T.hl T.hlast H'.m1 (fun _ _ e' => by rw [e] at e'; cases e') (fun h'' k H'' e' _ => g h'' H''.m1) (fun _ k _ e' hb' => absurd hb' hb) (fun _ k _ e' hb' => absurd hb' hb)
  · exact rReserve_spec T.hr.cons T.hn hm T.hl T.hlast H'.m1 (fun _ _ e' => by rw [e] at e'; cases e') (fun _ k _ e' hb' => absurd hb hb') (fun h'' k H'' e' _ _ => g h'' H''.m1) (fun _ k _ e' _ hl' => by rw [e] at e'; cases e'; exact absurd hl' hl)
  · exact rReserve_spec T.hr.cons T.hn hm T.hl T.hlast H'.m1 (fun _ _ e' => by rw [e] at e'; cases e') (fun _ k _ e' hb' => absurd hb hb') (fun _ k _ e' _ hl' => by rw [e] at e'; cases e'; exact absurd hl hl') (fun h'' k' H'' e' _ _ => by rw [e] at e'; cases e'; exact g h'' H''.m1)
theorem Take2 {id : Int} (T : Tn M a n s) (H : Hs h (Bk p blks s :: Rk r a n c s :: M))
    (kk : ∀ h' t s1, Grow s s1 → Hs h' (Bk p blks s1 :: Rk r a n c s :: M) → (∀ {R : Value → Heap → Prop}, (∀ h'', Hs h'' (Bk p blks s1 :: Rk r a n c s1 :: M) → R (.int .i64 t) h'') → SpecH PP F_ref17_Book_Take [P_ r, .int .i64 id] h' R) → Q (.int .i64 t) h') :
    SpecH PP F_quota_Book_Take [P_ p, .int .i64 id] h Q := by
  refine Take_spec H (fun h' H' e => kk h' _ s (.refl s) H' fun {R} g => ?_) (fun h' x H' e => kk h' _ (s.take id x) ⟨rfl, Nat.le_succ_of_le (free_len s id), Nat.le_succ _, fun h x hx => h x (gone_mem hx)⟩ H' fun {R} g => ?_)
  · exact rTake_spec T.hn T.hl H'.m1 (fun h'' H'' _ => g h'' H''.m1) (fun _ x _ e' => by rw [e] at e'; cases e')
  · exact rTake_spec T.hn T.hl H'.m1 (fun _ _ e' => by rw [e] at e'; cases e') (fun h'' x' H'' e' => by rw [e] at e'; cases e'; exact g h'' H''.m1)
theorem Free2 {id : Int} (T : Tn M a n s) (H : Hs h (Bk p blks s :: Rk r a n c s :: M))
    (kk : ∀ h' t s1, Grow s s1 → Hs h' (Bk p blks s1 :: Rk r a n c s :: M) → (∀ {R : Value → Heap → Prop}, (∀ h'', Hs h'' (Bk p blks s1 :: Rk r a n c s1 :: M) → R (.int .i64 t) h'') → SpecH PP F_ref17_Book_Free [P_ r, .int .i64 id] h' R) → Q (.int .i64 t) h') :
    SpecH PP F_quota_Book_Free [P_ p, .int .i64 id] h Q := by
  refine Free_spec H (fun h' H' e => kk h' _ s (.refl s) H' fun {R} g => ?_) (fun h' x H' e => kk h' _ (s.free id) ⟨rfl, Nat.le_succ_of_le (free_len s id), Nat.le_succ _, fun h x hx => h x (gone_mem hx)⟩ H' fun {R} g => ?_)
  · exact rFree_spec T.hl H'.m1 (fun h'' H'' _ => g h'' H''.m1) (fun _ x _ e' => by rw [e] at e'; cases e')
  · exact rFree_spec T.hl H'.m1 (fun _ _ e' => by rw [e] at e'; cases e') (fun h'' x' H'' e' => by rw [e] at e'; cases e'; exact g h'' H''.m1)
theorem Tn.cons {A : Assn} (T : Tn M a n s) : Tn (A :: M) a n s := ⟨T.hr.cons, T.hn, T.hmax, T.hl, T.hlast⟩
/-- An operation of a script. -/
structure Op where
  kind : Int
  ten : ByteArray
  b : Int
  e : Int
  id : Int
def opV (o : Op) : List Value := [.int .i64 o.kind, .string o.ten, .int .i64 o.b, .int .i64 o.e, .int .i64 o.id]
theorem step_spec {o : Op} (T : Tn M a n s) (H : Hs h (Bk p blks s :: Rk r a n c s :: M))
    (kk : ∀ h' s1, Grow s s1 → Hs h' (Bk p blks s1 :: Rk r a n c s1 :: M) → Q (.bool true) h') :
    SpecH PP F_law17_step [P_ p, P_ r, .agg #[.int .i64 o.kind, .string o.ten, .int .i64 o.b, .int .i64 o.e, .int .i64 o.id]] h Q := by
  refine law17_step_door ?_
  unfold law17_step_main
  have H0 := H.new (t := T_haversacklaw17_Op) (cs := #[.int .i64 o.kind, .string o.ten, .int .i64 o.b, .int .i64 o.e, .int .i64 o.id]) (xs := [.int .i64 o.kind, .string o.ten, .int .i64 o.b, .int .i64 o.e, .int .i64 o.id])
  generalize h.size = o5 at H0 ⊢
  generalize h.push (.cells #[.int .i64 o.kind, .string o.ten, .int .i64 o.b, .int .i64 o.e, .int .i64 o.id] T_haversacklaw17_Op (0, 0)) = h1 at H0 ⊢
  have T1 : Tn (pt o5 T_haversacklaw17_Op [.int .i64 o.kind, .string o.ten, .int .i64 o.b, .int .i64 o.e, .int .i64 o.id] :: M) a n s := T.cons
  have H1 : Hs h1 (Bk p blks s :: Rk r a n c s :: pt o5 T_haversacklaw17_Op [.int .i64 o.kind, .string o.ten, .int .i64 o.b, .int .i64 o.e, .int .i64 o.id] :: M) := H0.r2
  have cell : ∀ {h' : Heap} {s1 s2 : QS}, Hs h' (Bk p blks s1 :: Rk r a n c s2 :: pt o5 T_haversacklaw17_Op [.int .i64 o.kind, .string o.ten, .int .i64 o.b, .int .i64 o.e, .int .i64 o.id] :: M) →
      cellH h' ⟨o5, 0, none⟩ = some (.int .i64 o.kind) ∧ cellH h' ⟨o5, 1, none⟩ = some (.string o.ten) ∧ rdCells h' ⟨o5, 2, none⟩ 0 [.int .i64 o.b, .int .i64 o.e] ∧ cellH h' ⟨o5, 4, none⟩ = some (.int .i64 o.id) := fun H' =>
    ⟨(H'.m2).cell (off := 0) rfl, (H'.m2).cell (off := 1) rfl, (H'.m2).rdo 2, (H'.m2).cell (off := 4) rfl⟩
  have C := cell H1
  have fin : ∀ (h' : Heap) (s1 : QS) (b : Bool), b = true → Grow s s1 → Hs h' (Bk p blks s1 :: Rk r a n c s1 :: pt o5 T_haversacklaw17_Op [.int .i64 o.kind, .string o.ten, .int .i64 o.b, .int .i64 o.e, .int .i64 o.id] :: M) → Q (.bool b) h' := by
    rintro h' s1 b rfl g H'
    exact kk h' s1 g (H'.m2).tl
  have B : ∀ t : Int, (t == t) = true := fun t => beq_self_eq_true t
  refine ⟨_, C.1, (br_iff _ _ _).2 ⟨fun _ => ?_, fun _ => (br_iff _ _ _).2 ⟨fun _ => ?_, fun _ => (br_iff _ _ _).2 ⟨fun _ => ?_, fun _ => (br_iff _ _ _).2 ⟨fun _ => ?_, fun _ => (br_iff _ _ _).2 ⟨fun _ => ?_, fun _ => (br_iff _ _ _).2 ⟨fun _ => ?_, fun _ => fin _ _ _ rfl (.refl s) H1⟩⟩⟩⟩⟩⟩⟩
  · refine ⟨_, C.2.1, _, _, C.2.2.1, ?_, ⟨_, C.2.1, ?_, ⟨_, _, C.2.2.1, ?_⟩, trivial⟩, ⟨_, _, C.2.2.1, ?_, ⟨_, C.2.1, ?_⟩, trivial⟩, trivial⟩
    · exact Set2 (u := (o.b, o.e)) T1 H1 fun h' t s1 g H' k2 => ⟨t, rfl, _, (cell H').2.1, _, _, (cell H').2.2.1, k2 fun h'' H'' => ⟨t, rfl, fin _ _ _ (B t) g H''⟩⟩
    · exact Set2 (u := (o.b, o.e)) T1 H1 fun h' t s1 g H' k2 => ⟨t, rfl, _, _, (cell H').2.2.1, k2 fun h'' H'' => ⟨t, rfl, fin _ _ _ (B t) g H''⟩⟩
    · exact Set2 (u := (o.b, o.e)) T1 H1 fun h' t s1 g H' k2 => ⟨t, rfl, k2 fun h'' H'' => ⟨t, rfl, fin _ _ _ (B t) g H''⟩⟩
    · exact Set2 (u := (o.b, o.e)) T1 H1 fun h' t s1 g H' k2 => ⟨t, rfl, _, (cell H').2.1, k2 fun h'' H'' => ⟨t, rfl, fin _ _ _ (B t) g H''⟩⟩
    · exact Set2 (u := (o.b, o.e)) T1 H1 fun h' t s1 g H' k2 => ⟨t, rfl, k2 fun h'' H'' => ⟨t, rfl, fin _ _ _ (B t) g H''⟩⟩
  · refine ⟨_, C.2.1, Use2 T1 H1 fun h2 x y t H2 k2 => ⟨_, _, _, rfl, ?_⟩⟩
    refine (H2.new (t := T_api_Use) (cs := #[.int .i64 0, .int .i64 0]) (xs := [.int .i64 0, .int .i64 0])).wrs fun h3 H3 => ⟨_, (H3.m3).cell (off := 1) rfl, k2 (T1.cons (A := pt h2.size T_api_Use [.int .i64 x, .int .i64 y])) H3.r2 fun h4 H4 => ⟨_, _, _, rfl, ?_⟩⟩
    refine (H4.new (t := T_api_Use) (cs := #[.int .i64 0, .int .i64 0]) (xs := [.int .i64 0, .int .i64 0])).wrs fun h5 H5 => ⟨_, _, (H5.m3).rdc0, _, _, H5.rdc0, br_true ?_ (fin _ _ _ (B t) (.refl s) ?_)⟩
    · simp
    · exact (H5.tl.m2).tl
  · refine ⟨_, C.2.1, Left2 T1 H1 fun h2 x y t H2 k2 => ⟨_, _, _, rfl, ?_⟩⟩
    refine (H2.new (t := T_api_Use) (cs := #[.int .i64 0, .int .i64 0]) (xs := [.int .i64 0, .int .i64 0])).wrs fun h3 H3 => ⟨_, (H3.m3).cell (off := 1) rfl, k2 (T1.cons (A := pt h2.size T_api_Use [.int .i64 x, .int .i64 y])) H3.r2 fun h4 H4 => ⟨_, _, _, rfl, ?_⟩⟩
    refine (H4.new (t := T_api_Use) (cs := #[.int .i64 0, .int .i64 0]) (xs := [.int .i64 0, .int .i64 0])).wrs fun h5 H5 => ⟨_, _, (H5.m3).rdc0, _, _, H5.rdc0, br_true ?_ (fin _ _ _ (B t) (.refl s) ?_)⟩
    · simp
    · exact (H5.tl.m2).tl
  · refine ⟨_, C.2.1, _, _, C.2.2.1, Reserve2 T1 H1 fun h' x t s1 g H' k2 => ⟨x, t, rfl, _, (cell H').2.1, _, _, (cell H').2.2.1, k2 fun h'' H'' => ⟨x, t, rfl, br_true (B x) (fin _ _ _ (B t) g H'')⟩⟩⟩
  · refine ⟨_, C.2.2.2, ?_, ⟨_, C.2.2.2, ?_⟩, trivial⟩
    · exact Take2 T1 H1 fun h' t s1 g H' k2 => ⟨t, rfl, _, (cell H').2.2.2, k2 fun h'' H'' => ⟨t, rfl, fin _ _ _ (B t) g H''⟩⟩
    · exact Take2 T1 H1 fun h' t s1 g H' k2 => ⟨t, rfl, k2 fun h'' H'' => ⟨t, rfl, fin _ _ _ (B t) g H''⟩⟩
  · refine ⟨_, C.2.2.2, ?_, ⟨_, C.2.2.2, ?_⟩, trivial⟩
    · exact Free2 T1 H1 fun h' t s1 g H' k2 => ⟨t, rfl, _, (cell H').2.2.2, k2 fun h'' H'' => ⟨t, rfl, fin _ _ _ (B t) g H''⟩⟩
    · exact Free2 T1 H1 fun h' t s1 g H' k2 => ⟨t, rfl, k2 fun h'' H'' => ⟨t, rfl, fin _ _ _ (B t) g H''⟩⟩
end Go.Proofs.Ytladdcnfdbmnlaa

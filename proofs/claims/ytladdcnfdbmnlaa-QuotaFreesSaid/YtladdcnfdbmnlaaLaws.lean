/- The laws of quota. -/
import Derived.Test.YtladdcnfdbmnlaaQAwake
import Derived.Test.YtladdcnfdbmnlaaHwOpen
set_option linter.unusedVariables false
set_option linter.unusedSimpArgs false
namespace Go.Proofs.Ytladdcnfdbmnlaa
open Go Go.HW
variable {h : Heap} {L : List Assn} {Q : Value → Heap → Prop}
theorem open_ten {W : World} {ecs : List Value} (hl : ecs.length = 4) (g : Dat PP W T_api_Tenant ecs) : ∃ x, ecs = tenV x ∧ x.name.size < 9223372036854775808 := by
  match ecs, hl with
  | [a, b, c, d], _ =>
    have f := g.fields
    rw [FL_api_Tenant] at f
    obtain ⟨k, e1, hs⟩ := (f (T_string, 0, 1) (by simp)).str U_string
    obtain ⟨v, e2, _⟩ := (f (T_string, 1, 1) (by simp)).str U_string
    obtain ⟨n, e3, _⟩ := (f (T_int, 2, 1) (by simp)).i64 U_int
    obtain ⟨m, e4, _⟩ := (f (T_int, 3, 1) (by simp)).i64 U_int
    simp at e1 e2 e3 e4
    exact ⟨⟨k, v, n, m⟩, by rw [e1, e2, e3, e4]; rfl, hs⟩
theorem open_op {W : World} {ecs : List Value} (hl : ecs.length = 5) (g : Dat PP W T_haversacklaw17_Op ecs) : ∃ x, ecs = opV x ∧ True := by
  match ecs, hl with
  | [a, b, c, d, e], _ =>
    have f := g.fields
    rw [FL_haversacklaw17_Op] at f
    obtain ⟨k, e1, _⟩ := (f (T_int, 0, 1) (by simp)).i64 U_int
    obtain ⟨v, e2, _⟩ := (f (T_string, 1, 1) (by simp)).str U_string
    have f2 := (f (T_api_Use, 2, 2) (by simp)).fields
    rw [FL_api_Use] at f2
    obtain ⟨n, e3, _⟩ := (f2 (T_int, 0, 1) (by simp)).i64 U_int
    obtain ⟨m, e4, _⟩ := (f2 (T_int, 1, 1) (by simp)).i64 U_int
    obtain ⟨i, e5, _⟩ := (f (T_int, 4, 1) (by simp)).i64 U_int
    simp at e1 e2 e3 e4 e5
    exact ⟨⟨k, v, n, m, i⟩, by rw [e1, e2, e3, e4, e5]; rfl, trivial⟩
theorem open_use {W : World} {ecs : List Value} (hl : ecs.length = 2) (g : Dat PP W T_api_Use ecs) : ∃ x, ecs = useV x ∧ True := by
  match ecs, hl with
  | [a, b], _ =>
    have f := g.fields
    rw [FL_api_Use] at f
    obtain ⟨n, e3, _⟩ := (f (T_int, 0, 1) (by simp)).i64 U_int
    obtain ⟨m, e4, _⟩ := (f (T_int, 1, 1) (by simp)).i64 U_int
    simp at e3 e4
    exact ⟨⟨n, m⟩, by rw [e3, e4]; rfl, trivial⟩
/-! ### No book at all -/
theorem Use_nil {nm : ByteArray} (H : Hs h L) (kk : ∀ h', Hs h' L → Q (.tuple #[.agg #[.int .i64 0, .int .i64 0], .int .i64 3]) h') : SpecH PP F_quota_Book_Use [.pointer none, .string nm] h Q := by
  refine quota_Book_Use_door ?_
  unfold quota_Book_Use_main
  have H1 := H.new (t := T_api_Use) (cs := #[.int .i64 0, .int .i64 0]) (xs := [.int .i64 0, .int .i64 0])
  exact find_nil ⟨_, _, rfl, br_true rfl (H1.wrs fun h3 H3 => ⟨_, _, H3.rdc0, kk _ H3.tl⟩)⟩
theorem Left_nil {nm : ByteArray} (H : Hs h L) (kk : ∀ h', Hs h' L → Q (.tuple #[.agg #[.int .i64 0, .int .i64 0], .int .i64 3]) h') : SpecH PP F_quota_Book_Left [.pointer none, .string nm] h Q := by
  refine quota_Book_Left_door ?_
  unfold quota_Book_Left_main
  have H1 := H.new (t := T_api_Use) (cs := #[.int .i64 0, .int .i64 0]) (xs := [.int .i64 0, .int .i64 0])
  exact find_nil ⟨_, _, rfl, br_true rfl (H1.wrs fun h3 H3 => ⟨_, _, H3.rdc0, kk _ H3.tl⟩)⟩
theorem Set_nil {nm : ByteArray} {u1 u2 : Int} (H : Hs h L) (kk : ∀ h', Hs h' L → Q (.int .i64 3) h') : SpecH PP F_quota_Book_Set [.pointer none, .string nm, .agg #[.int .i64 u1, .int .i64 u2]] h Q := by
  refine quota_Book_Set_door ?_
  unfold quota_Book_Set_main
  have H1 := H.new (t := T_api_Use) (cs := #[.int .i64 u1, .int .i64 u2]) (xs := [.int .i64 u1, .int .i64 u2])
  exact find_nil ⟨_, _, rfl, br_true rfl (kk _ H1.tl)⟩
theorem Reserve_nil {nm : ByteArray} {u1 u2 : Int} (H : Hs h L) (kk : ∀ h', Hs h' L → Q (.tuple #[.int .i64 0, .int .i64 3]) h') : SpecH PP F_quota_Book_Reserve [.pointer none, .string nm, .agg #[.int .i64 u1, .int .i64 u2]] h Q := by
  refine quota_Book_Reserve_door ?_
  unfold quota_Book_Reserve_main
  have H1 := H.new (t := T_api_Use) (cs := #[.int .i64 u1, .int .i64 u2]) (xs := [.int .i64 u1, .int .i64 u2])
  exact find_nil ⟨_, _, rfl, br_true rfl (kk _ H1.tl)⟩
theorem Take_nil {id : Int} (kk : Q (.int .i64 3) h) : SpecH PP F_quota_Book_Take [.pointer none, .int .i64 id] h Q :=
  quota_Book_Take_door (by unfold quota_Book_Take_main; exact br_true rfl kk)
theorem Free_nil {id : Int} (kk : Q (.int .i64 3) h) : SpecH PP F_quota_Book_Free [.pointer none, .int .i64 id] h Q :=
  quota_Book_Free_door (by unfold quota_Book_Free_main; exact br_true rfl kk)
theorem QuotaNil_spec {nm : ByteArray} {u : Int × Int} {id : Int} (HQ : ∀ h', ExtB h.size h h' → Q (.bool true) h') : SpecH PP F_law17_QuotaNil [.string nm, .agg (useV u).toArray, .int .i64 id] h Q := by
  refine law17_QuotaNil_door ?_
  unfold law17_QuotaNil_main
  have H1 := (Hs.start h).new (t := T_api_Use) (cs := #[.int .i64 u.1, .int .i64 u.2]) (xs := [.int .i64 u.1, .int .i64 u.2])
  refine Use_nil H1 fun h2 H2 => ⟨_, _, _, rfl, ?_⟩
  refine (H2.new (t := T_api_Use) (cs := #[.int .i64 0, .int .i64 0]) (xs := [.int .i64 0, .int .i64 0])).wrs fun h4 H4 => Left_nil H4 fun h5 H5 => ⟨_, _, _, rfl, ?_⟩
  refine (H5.new (t := T_api_Use) (cs := #[.int .i64 0, .int .i64 0]) (xs := [.int .i64 0, .int .i64 0])).wrs fun h7 H7 => ⟨_, _, (H7.m2).rdc0, Reserve_nil H7 fun h8 H8 => ⟨_, _, rfl, awake_spec H8 fun h9 H9 => ⟨_, rfl, br_true rfl ⟨_, _, (H9.m2).rdc0, Set_nil H9 fun h10 H10 => ⟨_, rfl, br_true rfl ?_⟩⟩⟩⟩⟩
  exact ⟨_, _, H10.m1.rdc0, br_true rfl (br_true rfl ⟨_, _, H10.rdc0, br_true rfl (br_true rfl (br_true rfl (br_true rfl (Take_nil ⟨_, rfl, br_true rfl (Free_nil ⟨_, rfl, HQ _ (H10.tl.tl.tl).ro_below⟩)⟩))))⟩)⟩
/-! ### Runs of a script -/
theorem rows_len {α : Type} {φ : α → List Value} {l : List α} {n : Nat} (hn : l.length = n) {i : Nat} (hi : i < n) : l[((i : Nat) : Int).toNat]? = some (l[i]'(by omega)) := by
  rw [Int.toNat_natCast]; exact List.getElem?_eq_getElem _
/-- What a script's run keeps: the state and its bounds. -/
structure Run (ts : List Ten) (i : Nat) (s : QS) : Prop where
  ts : s.ts = ts
  hd : s.hd.length ≤ i
  last : s.last ≤ i
  pos : ∀ x ∈ s.hd, 0 < x.id
theorem Run.grow {ts : List Ten} {i : Nat} {s t : QS} (R : Run ts i s) (g : Grow s t) : Run ts (i + 1) t := ⟨g.ts.trans R.ts, by have := g.hd; have := R.hd; omega, by have := g.last; have := R.last; omega, g.pos R.pos⟩
theorem Run.tn {M : List Assn} {a : Option Addr} {n : Nat} {ts : List Ten} {i : Nat} {s : QS} (R : Run ts i s) (hr : Gv M a (ts.flatMap tenV)) (hn : ts.length = n) (hmax : n < 2 ^ 40) (hi : i < 2 ^ 40) : Tn M a n s :=
  ⟨by rw [R.ts]; exact hr, by rw [R.ts]; exact hn, hmax, by have := R.hd; omega, by have := R.last; omega⟩
section
variable {p r : Nat} {blks : List Nat} {a sa : Option Addr} {n c sn sc : Nat} {ts : List Ten} {ops : List Op} {M : List Assn}
theorem runs_inner {i : Nat} {K : Ex → Fr → Heap → Prop} (hr : Gv M a (ts.flatMap tenV)) (hn : ts.length = n) (hmax : n ≤ 1000)
    (kk : ∀ h' s m, m ≤ i * 2001 + 2001 → Run ts m s → Hs h' (Bk p blks s :: Rk r a n c s :: M) → K (.exit 2) (law17_QuotaRuns_X2 a n c sa sn sc (some ⟨p, 0, none⟩) (some ⟨r, 0, none⟩) i) h') (hi : i ≤ 1000) :
    ∀ (d k : Nat) {h : Heap} {s : QS} {m : Nat}, k + d = n → m ≤ i * 2001 + 1 + 2 * k → Run ts m s → Hs h (Bk p blks s :: Rk r a n c s :: M) →
    law17_QuotaRuns_L111110100100110 a n c sa sn sc (some ⟨p, 0, none⟩) (some ⟨r, 0, none⟩) i k K h := by
  intro d
  induction d with
  | zero =>
    intro k h s m hk hm R H
    have hm2 : m ≤ i * 2001 + 2001 := Nat.le_trans hm (by clear kk; omega)
    exact law17_QuotaRuns_L111110100100110_of (br_false (decide_eq_false (by omega)) (kk h s m hm2 R H))
  | succ d ih =>
    intro k h s m hk hm R H
    refine law17_QuotaRuns_L111110100100110_of (br_true (decide_eq_true (by omega)) ?_)
    refine idxf E_sl_api_Tenant (l := ts) (φ := tenV) (x := ts[k]) (hr _ H.tl.tl) (fun _ => rfl) (by omega) (by omega) (by omega) (by simp) fun t ht => ⟨_, ht.1, ?_⟩
    refine step_spec (o := ⟨2, ts[k].name, 0, 0, 0⟩) (R.tn hr hn (by omega) (by omega)) H fun h2 s2 g2 H2 => ⟨_, rfl, br_false rfl ?_⟩
    have R2 := R.grow g2
    refine idxf E_sl_api_Tenant (l := ts) (φ := tenV) (x := ts[k]) (hr _ H2.tl.tl) (fun _ => rfl) (by omega) (by omega) (by omega) (by simp) fun t ht => ⟨_, ht.1, ?_⟩
    refine step_spec (o := ⟨3, ts[k].name, 0, 0, 0⟩) (R2.tn hr hn (by omega) (by omega)) H2 fun h3 s3 g3 H3 => ⟨_, rfl, ?_⟩
    refine law17_QuotaRuns_J11111010010011001001_of (br_false rfl ?_)
    simp only [inc (show k < 2 ^ 62 by omega)]
    exact ih (k + 1) (by omega) (by omega) (R2.grow g3) H3
theorem runs_loop {K : Ex → Fr → Heap → Prop} (hr : Gv M a (ts.flatMap tenV)) (hn : ts.length = n) (hmax : n ≤ 1000) (hs : Gv M sa (ops.flatMap opV)) (hsn : ops.length = sn) (hsm : sn ≤ 1000)
    (kk : ∀ h' , Hs h' M → K (.exit 0) law17_QuotaRuns_X0 h') :
    ∀ (d i : Nat) {h : Heap} {s : QS} {m : Nat}, i + d = sn → m ≤ i * 2001 → Run ts m s → Hs h (Bk p blks s :: Rk r a n c s :: M) →
    law17_QuotaRuns_L11111010 a n c sa sn sc (some ⟨p, 0, none⟩) (some ⟨r, 0, none⟩) i K h := by
  intro d
  induction d with
  | zero =>
    intro i h s m hk hm R H
    exact law17_QuotaRuns_L11111010_of (br_false (decide_eq_false (by omega)) (kk h H.tl.tl))
  | succ d ih =>
    intro i h s m hk hm R H
    refine law17_QuotaRuns_L11111010_of (br_true (decide_eq_true (by omega)) ?_)
    refine idxf E_sl_haversacklaw17_Op (l := ops) (φ := opV) (x := ops[i]) (hs _ H.tl.tl) (fun _ => rfl) (by omega) (by omega) (by omega) (by simp) fun t ht => ⟨_, _, _, _, _, ht, ?_⟩
    refine step_spec (o := ops[i]) (R.tn hr hn (by omega) (by omega)) H fun h2 s2 g2 H2 => ⟨_, rfl, br_false rfl ?_⟩
    refine runs_inner hr hn hmax (fun h3 s3 m3 hm3 R3 H3 => ?_) (by omega) n 0 (by omega) (by omega) (R.grow g2) H2
    rw [law17_QuotaRuns_at111110100100110_X2]
    simp only [inc (show i < 2 ^ 62 by omega)]
    exact ih (i + 1) (by omega) (by omega) R3 H3
end
theorem run0 (ts : List Ten) : Run ts 0 (q0 ts) := ⟨rfl, Nat.le_refl _, Nat.le_refl _, fun x hx => by cases hx⟩
theorem QuotaRuns_spec {a sa : Option Addr} {n c sn sc : Nat} {ts : List Ten} {ops : List Op} (hr : Rd h a (ts.flatMap tenV)) (hn : ts.length = n) (hz : ∀ t ∈ ts, t.name.size < 9223372036854775808) (hs : Rd h sa (ops.flatMap opV)) (hsn : ops.length = sn)
    (HQ : ∀ h', ExtB h.size h h' → Q (.bool true) h') : SpecH PP F_law17_QuotaRuns [.slice a n c, .slice sa sn sc] h Q := by
  refine law17_QuotaRuns_door ?_
  unfold law17_QuotaRuns_main
  have H0 := Hs.start h
  have hr' : Gv [ro h] a (ts.flatMap tenV) := Gv.ro hr
  have hs' : Gv [ro h] sa (ops.flatMap opV) := Gv.ro hs
  have aw : ∀ h', Hs h' [ro h] → law17_QuotaRuns_J101 a n c sa sn sc true Q h' := fun h' H' => law17_QuotaRuns_J101_of (br_true rfl (awake_spec H' fun h2 H2 => ⟨_, rfl, HQ _ H2.ro_below⟩))
  refine (br_iff _ _ _).2 ⟨fun _ => aw _ H0, fun e1 => (br_iff _ _ _).2 ⟨fun _ => aw _ H0, fun e2 => ?_⟩⟩
  have l1 : n ≤ 1000 := by have := of_decide_eq_false e1; omega
  have l2 : sn ≤ 1000 := by have := of_decide_eq_false e2; omega
  refine rCheck_spec hr' hn (by omega) hz H0 fun h1 H1 => ⟨_, rfl, ?_⟩
  by_cases e : chk ts = 0
  · rw [e]
    refine law17_QuotaRuns_J101_of (br_false rfl ?_)
    refine New_spec hr' hn (by omega) hz H1 (fun e' => absurd e e') fun _ h2 p blks H2 => ⟨_, _, rfl, br_false rfl ?_⟩
    refine law17_QuotaRuns_J11101_of (br_false rfl ?_)
    refine rNew_spec (ts := ts) hn (by omega) (chk_qi e) H2 fun h3 r H3 => ⟨_, rfl, ?_⟩
    refine runs_loop hr' hn l1 hs' hsn l2 (fun h4 H4 => ?_) sn 0 (by omega) (by omega) (run0 ts) H3.m1
    rw [law17_QuotaRuns_at11111010_X0]
    exact awake_spec H4 fun h5 H5 => ⟨_, rfl, HQ _ H5.ro_below⟩
  · rw [show (chk ts != 0) = true by simpa using e]
    exact aw _ H1
end Go.Proofs.Ytladdcnfdbmnlaa

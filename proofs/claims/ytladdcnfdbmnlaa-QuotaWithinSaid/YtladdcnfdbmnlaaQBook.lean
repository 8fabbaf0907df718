/- Contracts of package quota: the functions. -/
import Derived.Test.YtladdcnfdbmnlaaQuota
import Derived.Test.YtladdcnfdbmnlaaHwStr
set_option linter.unusedVariables false
set_option linter.unusedSimpArgs false
namespace Go.Proofs.Ytladdcnfdbmnlaa
open Go Go.HW
theorem inc {i : Nat} (hi : i < 2 ^ 62) : IntKind.i64.wrap ((i : Int) + 1) = ((i + 1 : Nat) : Int) := by rw [wrap_i64_z (by omega) (by omega)]; simp
def acc (s : QS) (b k : Nat) : Assn := pt b T_quota_account [.int .i64 (s.mb k), .int .i64 (s.me k), .int .i64 (s.use k).1, .int .i64 (s.use k).2, .int .i64 (hB s.hd k), .int .i64 (hE s.hd k)]
def accs (s : QS) (blks : List Nat) : List Assn := (List.range s.ts.length).map fun k => acc s (blks.getD k 0) k
def heldV (x : Nat × Int × Int) : Value := .agg #[P_ x.1, .int .i64 x.2.1, .int .i64 x.2.2]
structure BkP (s : QS) (blks : List Nat) (al : List (ByteArray × Nat)) (hl : List (Int × (Nat × Int × Int))) : Prop where
  q : QI s
  al : ∀ n, mget al n = (fnd s.ts n).map (blks.getD · 0)
  hl : ∀ id, mget hl id = (fdH s.hd id).map fun x => (blks.getD x.k 0, x.b, x.e)
def Bk (p : Nat) (blks : List Nat) (s : QS) : Assn := fun m => ∃ ma mh al hl, BkP s blks al hl ∧ Sp [pt p T_quota_Book [.map (some ma), .map (some mh), .int .i64 s.last], mp .string P_ ma al, mp (.int .i64) heldV mh hl, Sp (accs s blks)] m
variable {h : Heap} {L : List Assn} {p : Nat} {blks : List Nat} {s : QS} {Q : Value → Heap → Prop}
theorem Bk_iff : Hs h (Bk p blks s :: L) ↔ ∃ ma mh al hl, BkP s blks al hl ∧ Hs h (pt p T_quota_Book [.map (some ma), .map (some mh), .int .i64 s.last] :: mp .string P_ ma al :: mp (.int .i64) heldV mh hl :: Sp (accs s blks) :: L) := by
  unfold Bk; simp only [Hs.ex, Hs.and, Hs.app, List.cons_append, List.nil_append]
theorem Bk.qi (H : Hs h (Bk p blks s :: L)) : QI s := by obtain ⟨_, _, _, _, b, _⟩ := Bk_iff.1 H; exact b.q
theorem accs_get {blks : List Nat} {k : Nat} (hk : k < s.ts.length) : (accs s blks)[k]? = some (acc s (blks.getD k 0) k) := by simp [accs, hk]
theorem accs_set {s' : QS} {blks : List Nat} {k : Nat} (hts : s'.ts = s.ts) (hk : k < s.ts.length) (e : ∀ j, j ≠ k → ∀ b, acc s' b j = acc s b j) : (accs s blks).set k (acc s' (blks.getD k 0) k) = accs s' blks := by
  apply List.ext_getElem?
  intro i
  rw [List.getElem?_set]
  split
  · rename_i hi; subst hi
    rw [accs_get (s := s') (by rw [hts]; exact hk)]; simp [accs, hk]
  · rename_i hi
    simp only [accs, hts, List.getElem?_map]
    rcases Nat.lt_or_ge i s.ts.length with h | h
    · simp [h, e i (Ne.symm hi)]
    · rw [List.getElem?_eq_none (by simpa using h)]; rfl
theorem K_str : Keys PP T_string Value.string := Keys.str U_string
theorem K_int : Keys PP T_int (Value.int .i64) := Keys.int U_int
theorem Z_acc : (PP.info? T_p_quota_account).bind (·.zero) = some (.pointer none) := by kernel_rfl
theorem Z_held : (PP.info? T_quota_held).bind (·.zero) = some (.agg #[.pointer none, .int .i64 0, .int .i64 0]) := by kernel_rfl

theorem within_spec {n : Int} (kk : Q (.bool (decide (0 ≤ n ∧ n ≤ 1000000000))) h) : SpecH PP F_quota_within [.int .i64 n] h Q := by
  refine quota_within_door ?_
  unfold quota_within_main
  refine (br_iff _ _ _).2 ⟨fun h1 => ?_, fun h1 => ?_⟩
  · have h1 := of_decide_eq_true h1
    rwa [show decide (n ≤ 1000000000) = decide (0 ≤ n ∧ n ≤ 1000000000) by rw [decide_eq_decide]; omega]
  · have h1 := of_decide_eq_false h1
    rwa [decide_eq_false (by omega)] at kk
/-- The account that a name leads to. -/
theorem find_open {ma mh : Nat} {l : Int} {al : List (ByteArray × Nat)} {n : ByteArray} (H : Hs h (pt p T_quota_Book [.map (some ma), .map (some mh), .int .i64 l] :: mp .string P_ ma al :: L))
    (kk : Q (match mget al n with | some b => .tuple #[P_ b, .int .i64 0] | none => .tuple #[.pointer none, .int .i64 170]) h) : SpecH PP F_quota_Book_find [P_ p, .string n] h Q := by
  refine quota_Book_find_door ?_
  unfold quota_Book_find_main
  refine br_false rfl ⟨_, H.cell (off := 0) rfl, H.m1.lookup2 U_map_string_p_quota_account K_str Z_acc n ?_⟩
  cases e : mget al n with
  | none => rw [e] at kk; exact ⟨_, _, rfl, br_true rfl kk⟩
  | some b => rw [e] at kk; exact ⟨_, _, rfl, br_false rfl kk⟩
theorem find_nil {n : ByteArray} (kk : Q (.tuple #[.pointer none, .int .i64 3]) h) : SpecH PP F_quota_Book_find [.pointer none, .string n] h Q :=
  quota_Book_find_door (by unfold quota_Book_find_main; exact br_true rfl kk)
theorem left_spec {b k : Nat} (q : QI s) (hk : k < s.ts.length) (H : Hs h (acc s b k :: L)) (kk : ∀ h', Hs h' (acc s b k :: L) → Q (.agg #[.int .i64 (s.left k).1, .int .i64 (s.left k).2]) h') : SpecH PP F_quota_account_left [P_ b] h Q := by
  refine quota_account_left_door ?_
  unfold quota_account_left_main
  have H1 : Hs (h.push (.cells #[.int .i64 0, .int .i64 0] T_api_Use (0, 0))) (pt h.size T_api_Use [.int .i64 0, .int .i64 0] :: acc s b k :: L) := H.new
  have m := q.mostk hk
  have u1 := q.usB k hk
  have u2 := q.usE k hk
  have n1 := hB_nonneg s.hd k
  have n2 := hE_nonneg s.hd k
  have e1 : IntKind.i64.wrap (IntKind.i64.wrap (s.mb k - (s.use k).1) - hB s.hd k) = s.mb k - (s.use k).1 - hB s.hd k := by
    unfold QS.use; rw [wrap_i64_z (z := s.mb k - _) (by omega) (by omega), wrap_i64_z (by omega) (by omega)]
  have e2 : IntKind.i64.wrap (IntKind.i64.wrap (s.me k - (s.use k).2) - hE s.hd k) = s.me k - (s.use k).2 - hE s.hd k := by
    unfold QS.use; rw [wrap_i64_z (z := s.me k - _) (by omega) (by omega), wrap_i64_z (by omega) (by omega)]
  refine ⟨_, H1.m1.cell (off := 0) rfl, _, H1.m1.cell (off := 2) rfl, _, H1.m1.cell (off := 4) rfl, _, H1.m1.cell (off := 1) rfl, _, H1.m1.cell (off := 3) rfl, _, H1.m1.cell (off := 5) rfl, ?_⟩
  simp only [e1, e2]
  exact H1.wrs fun h2 H2 => ⟨_, _, H2.rdo 0, kk h2 H2.tl⟩
theorem fnd_none {al : List (ByteArray × Nat)} {hl : List (Int × (Nat × Int × Int))} {blks : List Nat} (b : BkP s blks al hl) {n : ByteArray} (e : fnd s.ts n = none) : mget al n = none := by rw [b.al, e]; rfl
theorem fnd_some {al : List (ByteArray × Nat)} {hl : List (Int × (Nat × Int × Int))} {blks : List Nat} (b : BkP s blks al hl) {n : ByteArray} {k : Nat} (e : fnd s.ts n = some k) : mget al n = some (blks.getD k 0) := by rw [b.al, e]; rfl
theorem Use_spec {n : ByteArray} (H : Hs h (Bk p blks s :: L)) (kk : ∀ h', Hs h' (Bk p blks s :: L) → Q (match fnd s.ts n with | some k => .tuple #[.agg #[.int .i64 (s.use k).1, .int .i64 (s.use k).2], .int .i64 0] | none => .tuple #[.agg #[.int .i64 0, .int .i64 0], .int .i64 170]) h') : SpecH PP F_quota_Book_Use [P_ p, .string n] h Q := by
  refine quota_Book_Use_door ?_
  unfold quota_Book_Use_main
  have H1 : Hs (h.push (.cells #[.int .i64 0, .int .i64 0] T_api_Use (0, 0))) (pt h.size T_api_Use [.int .i64 0, .int .i64 0] :: Bk p blks s :: L) := H.new
  obtain ⟨ma, mh, al, hl, b, H2⟩ := Bk_iff.1 H1.m1
  refine find_open H2 ?_
  cases e : fnd s.ts n with
  | none =>
    rw [fnd_none b e]
    rw [e] at kk
    exact ⟨_, _, rfl, br_true rfl (H1.wrs fun h3 H3 => ⟨_, _, H3.rdo 0, kk h3 H3.tl⟩)⟩
  | some k =>
    rw [fnd_some b e]
    rw [e] at kk
    have hk := fnd_lt e
    have H3 := H2.m3.focus (accs_get hk)
    exact ⟨_, _, rfl, br_false rfl ⟨_, _, H3.rdo 2, H1.wrs fun h3 H3 => ⟨_, _, H3.rdo 0, kk h3 H3.tl⟩⟩⟩
theorem Left_spec {n : ByteArray} (H : Hs h (Bk p blks s :: L)) (kk : ∀ h', Hs h' (Bk p blks s :: L) → Q (match fnd s.ts n with | some k => .tuple #[.agg #[.int .i64 (s.left k).1, .int .i64 (s.left k).2], .int .i64 0] | none => .tuple #[.agg #[.int .i64 0, .int .i64 0], .int .i64 170]) h') : SpecH PP F_quota_Book_Left [P_ p, .string n] h Q := by
  refine quota_Book_Left_door ?_
  unfold quota_Book_Left_main
  have H1 : Hs (h.push (.cells #[.int .i64 0, .int .i64 0] T_api_Use (0, 0))) (pt h.size T_api_Use [.int .i64 0, .int .i64 0] :: Bk p blks s :: L) := H.new
  obtain ⟨ma, mh, al, hl, b, H2⟩ := Bk_iff.1 H1.m1
  refine find_open H2 ?_
  cases e : fnd s.ts n with
  | none =>
    rw [fnd_none b e]
    rw [e] at kk
    exact ⟨_, _, rfl, br_true rfl (H1.wrs fun h3 H3 => ⟨_, _, H3.rdo 0, kk h3 H3.tl⟩)⟩
  | some k =>
    rw [fnd_some b e]
    rw [e] at kk
    have hk := fnd_lt e
    refine ⟨_, _, rfl, br_false rfl (left_spec b.q hk (H2.m3.focus (accs_get hk)) fun h3 H3 => ⟨_, _, rfl, ?_⟩)⟩
    have H4 := H3.unfocus (by simpa [accs] using hk)
    rw [accs_set rfl hk (fun _ _ _ => rfl)] at H4
    have H5 := Bk_iff.2 ⟨ma, mh, al, hl, b, H4.r3⟩
    refine H5.m1.wrs fun h4 H6 => ⟨_, _, H6.rdo 0, kk h4 H6.tl⟩
theorem Set_spec {n : ByteArray} {u : Int × Int} (H : Hs h (Bk p blks s :: L))
    (k1 : ∀ h', Hs h' (Bk p blks s :: L) → fnd s.ts n = none → Q (.int .i64 170) h')
    (k2 : ∀ h' k, Hs h' (Bk p blks s :: L) → fnd s.ts n = some k → ¬ (0 ≤ u.1 ∧ u.1 ≤ 1000000000 ∧ 0 ≤ u.2 ∧ u.2 ≤ 1000000000) → Q (.int .i64 1) h')
    (k3 : ∀ h' k, Hs h' (Bk p blks (s.set k u) :: L) → fnd s.ts n = some k → (0 ≤ u.1 ∧ u.1 ≤ 1000000000 ∧ 0 ≤ u.2 ∧ u.2 ≤ 1000000000) → Q (.int .i64 0) h') : SpecH PP F_quota_Book_Set [P_ p, .string n, .agg #[.int .i64 u.1, .int .i64 u.2]] h Q := by
  refine quota_Book_Set_door ?_
  unfold quota_Book_Set_main
  have H1 : Hs (h.push (.cells #[.int .i64 u.1, .int .i64 u.2] T_api_Use (0, 0))) (pt h.size T_api_Use [.int .i64 u.1, .int .i64 u.2] :: Bk p blks s :: L) := H.new
  obtain ⟨ma, mh, al, hl, b, H2⟩ := Bk_iff.1 H1.m1
  refine find_open H2 ?_
  cases e : fnd s.ts n with
  | none => rw [fnd_none b e]; exact ⟨_, _, rfl, br_true rfl (k1 _ H1.tl e)⟩
  | some k =>
    rw [fnd_some b e]
    have hk := fnd_lt e
    refine ⟨_, _, rfl, br_false rfl ⟨_, H1.cell (off := 0) rfl, within_spec ⟨_, rfl, (br_iff _ _ _).2 ⟨fun w1 => ?_, fun w1 => ⟨_, H1.cell (off := 1) rfl, within_spec ⟨_, rfl, ?_⟩⟩⟩⟩⟩⟩
    · refine quota_Book_Set_J1100111_of (br_true rfl (k2 _ k H1.tl e ?_))
      simp at w1; omega
    · refine quota_Book_Set_J1100111_of ((br_iff _ _ _).2 ⟨fun w2 => ?_, fun w2 => ?_⟩)
      · refine k2 _ k H1.tl e ?_
        simp at w2; omega
      · have hu : 0 ≤ u.1 ∧ u.1 ≤ 1000000000 ∧ 0 ≤ u.2 ∧ u.2 ≤ 1000000000 := by simp at w1 w2; omega
        refine ⟨_, _, H1.rdo 0, ?_⟩
        refine Hs.wrso 2 (H2.m3.focus (accs_get hk)) (fun h3 H3 => k3 h3 k ?_ e hu) (by simp)
        have hkl : k < s.us.length := by rw [b.q.len]; exact hk
        have eu : (s.set k u).use k = u := by simp only [QS.use, QS.set, getD_set hkl, if_true]
        have H4 := Hs.unfocus (A := acc (s.set k u) (blks.getD k 0) k) (As := accs s blks) (i := k) (by simpa [accs] using hk) (by
          unfold acc; rw [eu]; exact H3)
        rw [accs_set (s := s) (s' := s.set k u) rfl hk] at H4
        · exact (Bk_iff.2 ⟨ma, mh, al, hl, ⟨b.q.set hk ⟨hu.1, hu.2.1⟩ hu.2.2, b.al, b.hl⟩, H4.r3⟩).m1.tl
        · intro j hj bb
          have : (s.set k u).use j = s.use j := by simp only [QS.use, QS.set, getD_set hkl, if_neg (Ne.symm hj)]
          unfold acc; rw [this]; rfl
end Go.Proofs.Ytladdcnfdbmnlaa

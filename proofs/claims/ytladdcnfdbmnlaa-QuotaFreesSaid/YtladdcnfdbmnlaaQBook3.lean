/- Contracts of package quota: taking; the check; a new book. -/
import Derived.Test.YtladdcnfdbmnlaaQBook2
set_option linter.unusedVariables false
set_option linter.unusedSimpArgs false
namespace Go.Proofs.Ytladdcnfdbmnlaa
open Go Go.HW
variable {h : Heap} {L : List Assn} {p : Nat} {blks : List Nat} {s : QS} {Q : Value → Heap → Prop}
theorem Take_spec {id : Int} (H : Hs h (Bk p blks s :: L))
    (k1 : ∀ h', Hs h' (Bk p blks s :: L) → fdH s.hd id = none → Q (.int .i64 172) h')
    (k2 : ∀ h' x, Hs h' (Bk p blks (s.take id x) :: L) → fdH s.hd id = some x → Q (.int .i64 0) h') : SpecH PP F_quota_Book_Take [P_ p, .int .i64 id] h Q := by
  refine quota_Book_Take_door ?_
  unfold quota_Book_Take_main
  obtain ⟨ma, mh, al, hl, b, H1⟩ := Bk_iff.1 H
  refine br_false rfl ⟨_, H1.cell (off := 1) rfl, H1.m2.lookup1 U_map_int_quota_held K_int Z_held id ?_⟩
  cases e : fdH s.hd id with
  | none =>
    rw [b.hl, e]
    refine ⟨_, _, _, rfl, ?_⟩
    have H2 : Hs (h.push (.cells #[.pointer none, .int .i64 0, .int .i64 0] T_quota_held (0, 0))) (pt h.size T_quota_held [.pointer none, .int .i64 0, .int .i64 0] :: _) := H.new
    refine H2.wrs fun h3 H3 => Free_spec H3.m1 (fun h4 H4 _ => ⟨_, rfl, br_true rfl (k1 _ H4.m1.tl e)⟩) (fun h4 x _ e' => by rw [e] at e'; cases e')
  | some x =>
    rw [b.hl, e]
    have hx := b.q.ks x (fdH_mem e).1
    have hk := hx.1
    refine ⟨_, _, _, rfl, ?_⟩
    have H2 : Hs (h.push (.cells #[.pointer none, .int .i64 0, .int .i64 0] T_quota_held (0, 0))) (pt h.size T_quota_held [.pointer none, .int .i64 0, .int .i64 0] :: _) := H.new
    refine H2.wrs fun h3 H3 => Free_spec H3.m1 (fun h4 H4 e' => by rw [e] at e'; cases e') (fun h4 x' H4 e' => ⟨_, rfl, br_false rfl ?_⟩)
    rw [e] at e'; cases e'
    have H5 := H4.m1
    obtain ⟨ma2, mh2, al2, hl2, b2, H6⟩ := Bk_iff.1 H4
    have G := (H6.m3).focus (accs_get (s := s.free id) (blks := blks) hk)
    -- acc, rest, book, al, hl, xh
    have u1 := b2.q.usB x.k hk
    have u2 := b2.q.usE x.k hk
    have n1 := hB_nonneg (s.free id).hd x.k
    have n2 := hE_nonneg (s.free id).hd x.k
    have w4 : (if IntKind.i64.wrap (((s.free id).use x.k).1 + x.b) > 0 then IntKind.i64.wrap (((s.free id).use x.k).1 + x.b) else 0) = pos ((s.use x.k).1 + x.b) := by
      rw [wrap_i64_z (by simp only [QS.use]; omega) (by simp only [QS.use]; omega)]; rfl
    have w5 : (if IntKind.i64.wrap (((s.free id).use x.k).2 + x.e) > 0 then IntKind.i64.wrap (((s.free id).use x.k).2 + x.e) else 0) = pos ((s.use x.k).2 + x.e) := by
      rw [wrap_i64_z (by simp only [QS.use]; omega) (by simp only [QS.use]; omega)]; rfl
    have c0 := H5.cell (off := 0) rfl
    refine ⟨_, c0, _, c0, _, G.cell (off := 2) rfl, _, H5.cell (off := 1) rfl, G.sto (off := 2) (by simp) fun h5 G1 => ?_⟩
    have X := G1.m5
    refine ⟨_, X.cell (off := 0) rfl, _, X.cell (off := 0) rfl, _, G1.cell (off := 3) rfl, _, X.cell (off := 2) rfl, G1.sto (off := 3) (by simp) fun h6 G2 => k2 _ x ?_ e⟩
    simp only [w4, w5, List.set_cons_succ, List.set_cons_zero] at G2
    have hkl : x.k < s.us.length := by rw [b.q.len]; exact hk
    have eu : (s.take id x).use x.k = (pos ((s.use x.k).1 + x.b), pos ((s.use x.k).2 + x.e)) := by
      simp only [QS.use, QS.take, getD_set hkl, if_true]
    have other : ∀ j, j ≠ x.k → ∀ bb, acc (s.take id x) bb j = acc (s.free id) bb j := by
      intro j hj bb
      have : (s.take id x).use j = (s.free id).use j := by simp only [QS.use, QS.take, QS.free, getD_set hkl, if_neg (Ne.symm hj)]
      unfold acc; rw [this]; rfl
    have fin := Bk_turn (s := s.free id) (s' := s.take id x) (p := p) (blks := blks) (L := _ :: L) hk rfl other ⟨b.q.take e, b2.al, b2.hl⟩ (h := h6) (ma := ma2) (mh := mh2) (by
      unfold acc; rw [eu]; exact G2.m4.m4.m4)
    exact fin.m1.tl
/-! ### The check of tenants -/
def okC (c : Nat) : Bool := (decide (97 ≤ c) && decide (c ≤ 122)) || (decide (48 ≤ c) && decide (c ≤ 57)) || decide (c = 45)
def okN (n : ByteArray) : Bool := (sb n).all okC && decide (1 ≤ n.size) && decide (n.size ≤ 16)
def inB (n : Int) : Bool := decide (0 ≤ n ∧ n ≤ 1000000000)
def okT (t : Ten) : Bool := okN t.name && decide (t.sec.size ≤ 64) && inB t.mb && inB t.me
def okL : List Ten → List ByteArray → Bool
  | [], _ => true
  | t :: l, seen => okT t && !seen.any (fun y => decide (y = t.name)) && okL l (t.name :: seen)
def chk (ts : List Ten) : Int := if ts.length > 8 then 2 else if okL ts [] then 0 else 1
theorem chk_qi {ts : List Ten} (h : chk ts = 0) : QI ⟨ts, List.replicate ts.length (0, 0), [], 0⟩ := by
  have h1 : okL ts [] = true := by unfold chk at h; split at h <;> first | (cases h; done) | (split at h <;> first | assumption | cases h)
  have key : ∀ (l : List Ten) (seen : List ByteArray), okL l seen = true → (l.map (·.name)).Nodup ∧ (∀ t ∈ l, t.name ∉ seen) ∧ ∀ t ∈ l, okT t = true := by
    intro l
    induction l with
    | nil => intro seen _; simp
    | cons t l ih =>
      intro seen hh
      simp only [okL, Bool.and_eq_true, Bool.not_eq_true', List.any_eq_false, decide_eq_true_eq] at hh
      obtain ⟨⟨a, b⟩, c⟩ := hh
      obtain ⟨d, e, f⟩ := ih _ c
      refine ⟨?_, ?_, ?_⟩
      · rw [List.map_cons, List.nodup_cons]
        refine ⟨fun hm => ?_, d⟩
        obtain ⟨y, hy, hyn⟩ := List.mem_map.1 hm
        exact e y hy (by rw [hyn]; simp)
      · intro x hx
        rcases List.mem_cons.1 hx with rfl | hx
        · exact fun hm => b _ hm rfl
        · exact fun hm => e x hx (List.mem_cons_of_mem _ hm)
      · intro x hx
        rcases List.mem_cons.1 hx with rfl | hx
        · exact a
        · exact f x hx
  obtain ⟨d, _, f⟩ := key ts [] h1
  have z : ∀ k, (List.replicate ts.length ((0 : Int), (0 : Int))).getD k (0, 0) = (0, 0) := by
    intro k; rw [List.getD_eq_getElem?_getD, List.getElem?_replicate]; split <;> rfl
  exact ⟨by simp, d, fun t ht => by
    have := f t ht
    simp only [okT, inB, Bool.and_eq_true, decide_eq_true_eq] at this
    omega, fun k hk => by simp only [z, hB]; omega, fun k hk => by simp only [z, hE]; omega, fun x hx => by simp at hx, by simp⟩
theorem inc' {i : Nat} (hi : i < 9223372036854775807) : IntKind.i64.wrap ((i : Int) + 1) = ((i + 1 : Nat) : Int) := by rw [wrap_i64_z (by omega) (by omega)]; simp
theorem chk_chars {x : Nat} {c : List Nat} {K : Ex → Fr → Heap → Prop} {seen : Nat} {x5 : Addr} {l : Option Addr} {ln lc : Nat} {t13 t14 : Int} {a : Option Addr} {an ac : Nat} {h : Heap} (hr : Rd h a (nV c)) (hn : c.length = an) (hmax : an < 9223372036854775808) (hc : ∀ y ∈ c, y < 256)
    (k1 : c.all okC = true → K (.exit 2) (quota_Check_X2 (some seen) x5 l ln lc t13 t14) h) (k2 : c.all okC = false → K .ret (quota_Check_Xret 1) h) :
    ∀ (k i : Nat), i + k = an → (c.take i).all okC = true → quota_Check_L111010011001010 (some seen) x5 l ln lc t13 t14 a an ac an i K h := by
  intro k
  induction k with
  | zero =>
    intro i hi ht
    refine quota_Check_L111010011001010_of (br_false (decide_eq_false (by omega)) (k1 ?_))
    rwa [List.take_of_length_le (by omega)] at ht
  | succ k ih =>
    intro i hi ht
    have hil : i < c.length := by omega
    have hb := hc _ (List.getElem_mem hil)
    refine quota_Check_L111010011001010_of (br_true (decide_eq_true (by omega)) ?_)
    refine idx E_sl_uint8 hr (by omega) (by omega) (v := .int .u8 (c[i] : Nat)) (by rw [Int.toNat_natCast]; exact nV_get hil) fun t ht1 => ⟨_, ht1, ?_⟩
    have fin : ∀ b : Bool, b = !okC c[i] → quota_Check_J1110100110010100110011 (some seen) x5 l ln lc t13 t14 a an ac an i b K h := by
      rintro b rfl
      refine quota_Check_J1110100110010100110011_of ((br_iff _ _ _).2 ⟨fun hbad => k2 ?_, fun hok => ?_⟩)
      · rw [List.all_eq_false]; exact ⟨_, List.getElem_mem hil, by simpa using hbad⟩
      · simp only [inc' (show i < 9223372036854775807 by omega)]
        refine ih (i + 1) (by omega) ?_
        rw [List.take_succ_eq_append_getElem hil, List.all_append, ht]
        simpa using hok
    have ne : ((c[i] : Int) != 45) = !decide (c[i] = 45) := by rw [Bool.eq_iff_iff]; simp; omega
    refine (br_iff _ _ _).2 ⟨fun a1 => (br_iff _ _ _).2 ⟨fun a2 => fin _ ?_, fun a2 => (br_iff _ _ _).2 ⟨fun a3 => fin _ ?_, fun a3 => fin _ ?_⟩⟩, fun a1 => (br_iff _ _ _).2 ⟨fun a3 => (br_iff _ _ _).2 ⟨fun a2 => fin _ ?_, fun a2 => (br_iff _ _ _).2 ⟨fun a4 => fin _ ?_, fun a4 => fin _ ?_⟩⟩, fun a3 => fin _ ?_⟩⟩
    all_goals (simp only [decide_eq_true_eq, decide_eq_false_iff_not] at *; (try rw [ne]); unfold okC; rw [Bool.eq_iff_iff]; simp; omega)
end Go.Proofs.Ytladdcnfdbmnlaa

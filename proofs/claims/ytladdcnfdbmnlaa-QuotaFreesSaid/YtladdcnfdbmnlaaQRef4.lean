/- The ref book of quota: Reserve. -/
import Derived.Test.YtladdcnfdbmnlaaQRef3
set_option linter.unusedVariables false
set_option linter.unusedSimpArgs false
namespace Go.Proofs.Ytladdcnfdbmnlaa
open Go Go.HW
variable {h : Heap} {L : List Assn} {p n c : Nat} {a : Option Addr} {s : QS} {Q : Value → Heap → Prop}
theorem rres_end {nm : ByteArray} {mb me : Int} {m5 k : Nat} (hr : Gv L a (s.ts.flatMap tenV)) (hn : s.ts.length = n) (hmax : n < 2 ^ 62) (hl : s.hd.length < 2 ^ 40) (hlast : s.last < 2 ^ 40) (e : fnd s.ts nm = some k)
    (hb : -1000000000 ≤ mb ∧ mb ≤ 1000000000 ∧ -1000000000 ≤ me ∧ me ≤ 1000000000) (hle : pos mb ≤ (s.left k).1 ∧ pos me ≤ (s.left k).2)
    (H : Hs h (Rk p a n c s :: pt m5 T_api_Use [.int .i64 mb, .int .i64 me] :: L)) (kk : ∀ h', Hs h' (Rk p a n c (s.res k mb me) :: L) → Q (.tuple #[.int .i64 ((s.last + 1 : Nat) : Int), .int .i64 0]) h') :
    ref17_Book_Reserve_J111101 (some ⟨p, 0, none⟩) nm ⟨m5, 0, none⟩ false Q h := by
  obtain ⟨ua, uc, ha, hc, q, H1⟩ := Rk_iff.1 H
  have hk := fnd_lt e
  refine ref17_Book_Reserve_J111101_of (br_false rfl ⟨_, H1.cell (off := 3) rfl, ?_⟩)
  have w1 : IntKind.i64.wrap ((s.last : Int) + 1) = ((s.last + 1 : Nat) : Int) := inc (by omega)
  simp only [w1]
  refine H1.sto (off := 3) (by simp) fun h1 H2 => ?_
  have F : ∀ {R : Value → Heap → Prop}, R (.int .i64 k) h1 → SpecH PP F_ref17_Book_find [P_ p, .string nm] h1 R := fun {R} r =>
    rfind_spec hr.cons.cons.cons hn hmax (H2 : Hs h1 (pt p T_haversackref17_Book [.slice a n c, .slice ua n uc, .slice ha s.hd.length hc, .int .i64 ((s.last + 1 : Nat) : Int)] :: own ua n uc T_api_Use 2 (s.us.flatMap useV) :: own ha s.hd.length hc T_haversackref17_Held 4 (s.hd.flatMap hdV) :: pt m5 T_api_Use [.int .i64 mb, .int .i64 me] :: L)) (by rw [fndI_some e]; exact r)
  have c2 : cellH h1 ⟨p, 2, none⟩ = some (.slice ha s.hd.length hc) := H2.cell (off := 2) rfl
  have c3 : cellH h1 ⟨p, 3, none⟩ = some (.int .i64 ((s.last + 1 : Nat) : Int)) := H2.cell (off := 3) rfl
  have cm : rdCells h1 ⟨m5, 0, none⟩ 0 [.int .i64 mb, .int .i64 me] := (H2.m3).rdc0
  have H3 : Hs (h1.push (.cells #[.int .i64 ((s.last + 1 : Nat) : Int), .int .i64 k, .int .i64 mb, .int .i64 me] T_haversackref17_Held (0, 0))) (pt h1.size T_haversackref17_Held [.int .i64 ((s.last + 1 : Nat) : Int), .int .i64 k, .int .i64 mb, .int .i64 me] :: _) := H2.new
  have c2' : cellH (h1.push (.cells #[.int .i64 ((s.last + 1 : Nat) : Int), .int .i64 k, .int .i64 mb, .int .i64 me] T_haversackref17_Held (0, 0))) ⟨p, 2, none⟩ = some (.slice ha s.hd.length hc) := H3.m1.cell (off := 2) rfl
  have rdx : Rd (h1.push (.cells #[.int .i64 ((s.last + 1 : Nat) : Int), .int .i64 k, .int .i64 mb, .int .i64 me] T_haversackref17_Held (0, 0))) (some ⟨h1.size, 0, none⟩) [.int .i64 ((s.last + 1 : Nat) : Int), .int .i64 k, .int .i64 mb, .int .i64 me] := H3.ptrd rfl
  have fin : ∀ h5 a5 c5, Hs h5 (own a5 (s.hd.length + 1) c5 T_haversackref17_Held 4 (s.hd.flatMap hdV ++ [.int .i64 ((s.last + 1 : Nat) : Int), .int .i64 k, .int .i64 mb, .int .i64 me]) :: pt h1.size T_haversackref17_Held [.int .i64 ((s.last + 1 : Nat) : Int), .int .i64 k, .int .i64 mb, .int .i64 me] :: pt p T_haversackref17_Book [.slice a n c, .slice ua n uc, .slice ha s.hd.length hc, .int .i64 ((s.last + 1 : Nat) : Int)] :: own ua n uc T_api_Use 2 (s.us.flatMap useV) :: pt m5 T_api_Use [.int .i64 mb, .int .i64 me] :: L) →
      wr ⟨p, 2, none⟩ (.slice a5 (s.hd.length + 1) c5) (fun h6 => ref17_Book_Reserve_J1111111 (some ⟨p, 0, none⟩) Q h6) h5 := by
    intro h5 a5 c5 H5
    refine (H5.m2).sto (off := 2) (by simp) fun h6 H6 => ref17_Book_Reserve_J1111111_of ⟨_, H6.cell (off := 3) rfl, kk h6 (Rk_iff.2 ⟨ua, uc, a5, c5, q.res hk ⟨hb.1, hb.2.1⟩ hb.2.2 hle.1 hle.2, ?_⟩)⟩
    have el : (s.res k mb me).hd.length = s.hd.length + 1 := by simp [QS.res]
    have ev : (s.res k mb me).hd.flatMap hdV = s.hd.flatMap hdV ++ [.int .i64 ((s.last + 1 : Nat) : Int), .int .i64 k, .int .i64 mb, .int .i64 me] := by simp [QS.res, hdV]
    rw [el, ev]
    exact ((((H6.m2).tl.m3).tl.m2).m1)
  have A : ∀ {R : Value → Heap → Prop}, (∀ h5 a5 c5, wr ⟨p, 2, none⟩ (.slice a5 (s.hd.length + 1) c5) (fun h6 => ref17_Book_Reserve_J1111111 (some ⟨p, 0, none⟩) Q h6) h5 → R (.slice a5 (s.hd.length + 1) c5) h5) → hwp PP (Builtin.append_ #[T_sl_haversackref17_Held, T_sl_haversackref17_Held] T_sl_haversackref17_Held #[.slice ha s.hd.length hc, .slice (some ⟨h1.size, 0, none⟩) 1 1]) R (h1.push (.cells #[.int .i64 ((s.last + 1 : Nat) : Int), .int .i64 k, .int .i64 mb, .int .i64 me] T_haversackref17_Held (0, 0))) := by
    intro R r
    exact (H3.m3).app_sl E_sl_haversackref17_Held rdx rfl (by simp) (by simp [oneC]) (fun h5 a5 c5 H5 => r h5 a5 c5 (fin h5 a5 c5 H5)) (by omega) (by omega)
  repeat' first
    | exact trivial
    | exact A fun h5 a5 c5 g => ⟨_, _, _, rfl, g⟩
    | refine F ⟨_, rfl, ?_⟩
    | refine ⟨_, _, _, c2, ?_⟩
    | refine ⟨_, c3, ?_⟩
    | refine ⟨_, _, cm, ?_⟩
    | refine ⟨_, _, _, c2', ?_⟩
    | refine ⟨?_, ?_⟩
theorem rReserve_spec {nm : ByteArray} {mb me : Int} (hr : Gv L a (s.ts.flatMap tenV)) (hn : s.ts.length = n) (hmax : n < 2 ^ 62) (hl : s.hd.length < 2 ^ 40) (hlast : s.last < 2 ^ 40) (H : Hs h (Rk p a n c s :: L))
    (k1 : ∀ h', Hs h' (Rk p a n c s :: L) → fnd s.ts nm = none → Q (.tuple #[.int .i64 0, .int .i64 170]) h')
    (k2 : ∀ h' k, Hs h' (Rk p a n c s :: L) → fnd s.ts nm = some k → ¬ (-1000000000 ≤ mb ∧ mb ≤ 1000000000 ∧ -1000000000 ≤ me ∧ me ≤ 1000000000) → Q (.tuple #[.int .i64 0, .int .i64 1]) h')
    (k3 : ∀ h' k, Hs h' (Rk p a n c s :: L) → fnd s.ts nm = some k → (-1000000000 ≤ mb ∧ mb ≤ 1000000000 ∧ -1000000000 ≤ me ∧ me ≤ 1000000000) → ¬ (pos mb ≤ (s.left k).1 ∧ pos me ≤ (s.left k).2) → Q (.tuple #[.int .i64 0, .int .i64 171]) h')
    (k4 : ∀ h' k, Hs h' (Rk p a n c (s.res k mb me) :: L) → fnd s.ts nm = some k → (-1000000000 ≤ mb ∧ mb ≤ 1000000000 ∧ -1000000000 ≤ me ∧ me ≤ 1000000000) → (pos mb ≤ (s.left k).1 ∧ pos me ≤ (s.left k).2) → Q (.tuple #[.int .i64 ((s.last + 1 : Nat) : Int), .int .i64 0]) h') :
    SpecH PP F_ref17_Book_Reserve [P_ p, .string nm, .agg #[.int .i64 mb, .int .i64 me]] h Q := by
  refine ref17_Book_Reserve_door ?_
  unfold ref17_Book_Reserve_main
  have H1 : Hs (h.push (.cells #[.int .i64 mb, .int .i64 me] T_api_Use (0, 0))) (pt h.size T_api_Use [.int .i64 mb, .int .i64 me] :: Rk p a n c s :: L) := H.new
  generalize h.size = m5 at H1 ⊢
  refine rLeft_spec hr.cons hn hmax (by omega) H1.m1 fun h2 H2 => ?_
  cases e : fnd s.ts nm with
  | none =>
    refine ⟨_, _, _, rfl, ?_⟩
    refine (H2.new (t := T_api_Use) (cs := #[.int .i64 0, .int .i64 0]) (xs := [.int .i64 0, .int .i64 0])).wrs fun h3 H3 => br_true rfl (k1 h3 (H3.tl.m1.tl) e)
  | some k =>
    refine ⟨_, _, _, rfl, ?_⟩
    have H3 := H2.new (t := T_api_Use) (cs := #[.int .i64 0, .int .i64 0]) (xs := [.int .i64 0, .int .i64 0])
    generalize h2.size = l8 at H3 ⊢
    refine H3.wrs fun h4 H4 => br_false rfl ?_
    have m0 : cellH h4 ⟨m5, 0, none⟩ = some (.int .i64 mb) := (H4.m2).cell (off := 0) rfl
    have m1 : cellH h4 ⟨m5, 1, none⟩ = some (.int .i64 me) := (H4.m2).cell (off := 1) rfl
    have l0 : cellH h4 ⟨l8, 0, none⟩ = some (.int .i64 (s.left k).1) := H4.cell (off := 0) rfl
    have l1 : cellH h4 ⟨l8, 1, none⟩ = some (.int .i64 (s.left k).2) := H4.cell (off := 1) rfl
    have p1 : 0 ≤ (s.left k).1 := pos_nonneg _
    have p2 : 0 ≤ (s.left k).2 := pos_nonneg _
    have g2 : (-1000000000 ≤ mb ∧ mb ≤ 1000000000 ∧ -1000000000 ≤ me ∧ me ≤ 1000000000) → ∀ b : Bool, b = decide (¬ (pos mb ≤ (s.left k).1 ∧ pos me ≤ (s.left k).2)) → ref17_Book_Reserve_J111101 (some ⟨p, 0, none⟩) nm ⟨m5, 0, none⟩ b Q h4 := by
      intro hb b hbb
      by_cases hle : pos mb ≤ (s.left k).1 ∧ pos me ≤ (s.left k).2
      · rw [decide_eq_false (by rw [Decidable.not_not]; exact hle)] at hbb
        subst hbb
        exact rres_end hr hn hmax hl hlast e hb hle H4.tl fun h' H' => k4 h' k H' e hb hle
      · rw [decide_eq_true hle] at hbb
        subst hbb
        exact ref17_Book_Reserve_J111101_of (br_true rfl (k3 h4 k (H4.tl.m1.tl) e hb hle))
    have g1 : ∀ b : Bool, b = decide (¬ (-1000000000 ≤ mb ∧ mb ≤ 1000000000 ∧ -1000000000 ≤ me ∧ me ≤ 1000000000)) → ref17_Book_Reserve_J11101 (some ⟨p, 0, none⟩) nm ⟨m5, 0, none⟩ ⟨l8, 0, none⟩ b Q h4 := by
      rintro b rfl
      refine ref17_Book_Reserve_J11101_of ((br_iff _ _ _).2 ⟨fun e1 => k2 h4 k (H4.tl.m1.tl) e (of_decide_eq_true e1), fun e1 => ?_⟩)
      have hb := of_decide_eq_false e1
      rw [Decidable.not_not] at hb
      refine ⟨_, m0, (br_iff _ _ _).2 ⟨fun c1 => ⟨_, m0, _, l0, (br_iff _ _ _).2 ⟨fun c2 => g2 hb _ ?_, fun c2 => ⟨_, m1, (br_iff _ _ _).2 ⟨fun c3 => ⟨_, m1, _, l1, g2 hb _ ?_⟩, fun c3 => g2 hb _ ?_⟩⟩⟩⟩, fun c1 => ⟨_, m1, (br_iff _ _ _).2 ⟨fun c3 => ⟨_, m1, _, l1, g2 hb _ ?_⟩, fun c3 => g2 hb _ ?_⟩⟩⟩⟩
      all_goals (unfold pos; simp only [decide_eq_true_eq, decide_eq_false_iff_not] at *; symm; simp only [decide_eq_decide, decide_eq_true_eq, decide_eq_false_iff_not]; repeat' split; all_goals omega)
    refine ⟨_, m0, (br_iff _ _ _).2 ⟨fun c1 => g1 _ ?_, fun c1 => ⟨_, m0, (br_iff _ _ _).2 ⟨fun c2 => g1 _ ?_, fun c2 => ⟨_, m1, (br_iff _ _ _).2 ⟨fun c3 => g1 _ ?_, fun c3 => ⟨_, m1, g1 _ ?_⟩⟩⟩⟩⟩⟩⟩
    all_goals (simp only [decide_eq_true_eq, decide_eq_false_iff_not] at *; symm; simp only [decide_eq_decide, decide_eq_true_eq]; omega)
end Go.Proofs.Ytladdcnfdbmnlaa

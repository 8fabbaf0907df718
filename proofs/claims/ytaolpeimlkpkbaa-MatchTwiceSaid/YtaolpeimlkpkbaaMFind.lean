/- All and Find of the program. -/
import Derived.Test.YtaolpeimlkpkbaaAll
import Derived.Test.YtaolpeimlkpkbaaHwFr
set_option maxRecDepth 20000
set_option linter.unusedVariables false
set_option linter.unusedSimpArgs false
namespace Go.Proofs.Ytaolpeimlkpkbaa
open Go Go.HW
variable {h : Heap} {L : List Assn} {Q : Value → Heap → Prop}
theorem All_hs {a : OA} {n c : Nat} {D : List Nat} (hr : Gv L a (nV D)) (hn : D.length = n) (hn2 : n < 2 ^ 40) (hn0 : a = none → n = 0) (H : Hs h L)
    (k : ∀ h' t1 b d, n ≤ d → (b = none → d = 0) → Hs h' (pt t1 T_sl_uint8 [.slice b n d] :: own b n d T_uint8 1 (nV D) :: L) → Q (.func (.func F_match_All_1) #[] #[.pointer (some ⟨t1, 0, none⟩)]) h') : SpecH PP F_match_All [.slice a n c] h Q := by
  refine match_All.door ?_
  refine (H.own_nil _ _).app_sl E_sl_uint8 (m := n) (ys := nV D) (hr _ H) (by rw [nV_len]; omega) hn0 (nV_one _) (fun h1 b d H1 => ⟨_, _, _, rfl, ?_⟩) (by omega) (by omega)
  rw [Nat.zero_add, List.nil_append] at H1
  rw [Nat.zero_add]
  dsimp only
  have hd := H1.own_le
  have hb0 : b = none → d = 0 := fun e => by subst e; exact H1.own_none
  refine (H1.new (t := T_sl_uint8) (xs := [.slice none 0 0])).sto (off := 0) (by simp) fun h3 H3 => ?_
  exact k h3 _ b d hd hb0 H3
def TA (out l df : Nat) (Lp : Loop) (tk : List Tok) (k : Nat) : Assn := fun m => ∃ a c, Sp [ob l (.loop Lp), ob df (.deferred (some [])), pt out T_sl_api_Token [.slice a (tk.take k).length c], own a (tk.take k).length c T_api_Token 3 ((tk.take k).flatMap tokV)] m
theorem TA_open {out l df : Nat} {Lp : Loop} {tk : List Tok} {k : Nat} {M : List Assn} : Hs h (TA out l df Lp tk k :: M) ↔ ∃ a c, Hs h (ob l (.loop Lp) :: ob df (.deferred (some [])) :: pt out T_sl_api_Token [.slice a (tk.take k).length c] :: own a (tk.take k).length c T_api_Token 3 ((tk.take k).flatMap tokV) :: M) := by
  constructor
  · intro H
    obtain ⟨a, H⟩ := Hs.ex.1 H
    obtain ⟨c, H⟩ := Hs.ex.1 H
    exact ⟨a, c, Hs.app.1 H⟩
  · rintro ⟨a, c, H⟩
    exact Hs.ex.2 ⟨a, Hs.ex.2 ⟨c, Hs.app.2 H⟩⟩
theorem Find_hs {a : OA} {n c : Nat} {D : List Nat} (hb : ∀ x ∈ D, x < 256) (hr : Gv L a (nV D)) (hn : D.length = n) (hn2 : n < 2 ^ 40) (hn0 : a = none → n = 0) (H : Hs h L)
    (k : ∀ h' a c, Hs h' (own a (find D).length c T_api_Token 3 ((find D).flatMap tokV) :: L) → Q (.slice a (find D).length c) h') : SpecH PP F_match_Find [.slice a n c] h Q := by
  obtain ⟨m, sm, s0, HE⟩ := H.em
  refine SpecH.keepD (match_Find.door ?_)
  dsimp only
  have H1 := HE.new (t := T_sl_api_Token) (cs := #[.slice none 0 0]) (xs := [.slice none 0 0])
  generalize Array.push h (.cells #[.slice none 0 0] T_sl_api_Token (0, 0)) = h1 at H1 ⊢
  generalize Array.size h = out at H1 ⊢
  refine All_hs ((hr.em sm (M := [])).cons) hn hn2 hn0 H1 fun h2 t1 b d hd hb0 H2 => ⟨_, rfl, ?_⟩
  refine ⟨F_match_All_1, #[], #[.pointer (some ⟨t1, 0, none⟩)], rfl, by kernel_rfl, fun fn tmps hf => ?_⟩
  generalize hL : (Loop.mk .ready none fn tmps #[7] (match_Find.cd 116) (match_Find.cd 117) h2.size) = Lp
  have H3 := (H2.push (.deferred (some []))).push (.loop Lp)
  rw [Array.size_push] at H3
  generalize (Array.push (Array.push h2 (.deferred (some []))) (.loop Lp)) = h3 at H3 ⊢
  generalize Array.size h2 = df at H3 hL ⊢
  have fl := find_le D
  have fin : ∀ {h' : Heap}, Hs h' (TA out (df + 1) df Lp (find D) (find D).length :: pt t1 T_sl_uint8 [.slice b n d] :: own b n d T_uint8 1 (nV D) :: [Em m]) →
      ∃ L, h'[df + 1]? = some (.loop L) ∧ L.state ≠ .busy ∧ h'[df]? = some (.deferred (some [])) ∧
        jumpK L.pending (fun e h_1 => match_Find.K1 (fun v h' => KeepD h h' → Q v h') e (mkFr 0 13 [(2, (.slice none 0 0)), (3, (.pointer (some ⟨out, 0, none⟩)))]) h_1) (h'.setIfInBounds (df + 1) (.loop { L with state := .exhausted })) := by
    intro h' H
    obtain ⟨a2, c2, H⟩ := TA_open.1 H
    rw [List.take_length] at H
    refine ⟨Lp, H.get, by rw [← hL]; simp, H.m1.get, ?_⟩
    have H4 := H.set (.loop { Lp with state := .exhausted })
    generalize h'.setIfInBounds (df + 1) (.loop { Lp with state := .exhausted }) = h4 at H4 ⊢
    rw [show Lp.pending = none by rw [← hL]]
    show match_Find.K1 _ .normal _ _
    refine match_Find.R1_outn0 ⟨_, _, _, (H4.m2).cell (off := 0) rfl, fun h5 tk kd => ?_⟩
    refine k h5 a2 c2 (Hs.takes (M := []) (?_ : Hs h4 (_ :: Em m :: [])) sm s0 tk kd fun m h => nd_own h)
    exact H4.m3.mono_tl fun m' l => (Sp.tl (Sp.tl (Sp.tl (Sp.tl (Sp.tl l)))))
  show SpecH PP F_match_All_1 [_, _] _ _
  refine All1_hs (da := b) (D := D) (L := own b n d T_uint8 1 (nV D) :: [Em m]) (TA out (df + 1) df Lp (find D)) (fun _ _ => False) hb Gv.own hn hd hb0 ?_ ?_ (fun h' H' => fin H') (fun k h' _ H' => absurd H' fun ⟨_, _, f, _⟩ => f)
  · intro k hk M h R H rt _
    obtain ⟨a2, c2, H⟩ := TA_open.1 H
    refine match_Find.R1_yield (t2 := none) (t2n := 0) (t2c := 0) (out3 := ⟨out, 0, none⟩) H.get (by rw [← hL]) (by rw [← hL]) (by rw [← hL]) (by rw [← hL]; exact hf) (match_Find.R1_of ?_)
    dsimp only
    refine Hs.wrs (b := Array.size h) (xs := [.int .u8 0, .int .i64 0, .int .i64 0]) H.new (fun h2 H2 => ?_)
    generalize Array.size h = x at H2 ⊢
    refine ⟨Lp, H2.m1.get, by rw [← hL], ?_⟩
    have H3 := H2.m1.set (.loop { Lp with state := .busy })
    generalize h2.setIfInBounds (df + 1) (.loop { Lp with state := .busy }) = h3 at H3 ⊢
    refine ⟨_, _, _, H3.m3.cell (off := 0) rfl, _, _, _, H3.m1.rdc0, ?_⟩
    have hlt : ((find D).take k).length ≤ 20000 := by rw [List.length_take]; omega
    refine tok_app (t := (find D)[k]) hlt H3.m4 fun h5 a5 c5 H5 => ⟨_, _, _, rfl, ?_⟩
    refine (H5.m4).sto (off := 0) (by simp) fun h6 H6 => ?_
    refine ⟨{ Lp with state := .busy }, H6.m2.get, ?_⟩
    have eL : endL { Lp with state := .busy } none = .loop Lp := by rw [← hL]; rfl
    rw [eL]
    have H7 := H6.m2.set (.loop Lp)
    refine rt _ (TA_open.2 ⟨a5, c5, ?_⟩)
    have et : (find D).take k ++ [(find D)[k]] = (find D).take (k + 1) := (List.take_succ_eq_append_getElem hk).symm
    rw [et] at H7
    exact (H7.m4.m4.tl).m1
  · refine TA_open.2 ⟨none, 0, ?_⟩
    rw [List.take_zero]
    have H4 := H3.own_nil T_api_Token 3
    exact H4.m5.m3.m3
end Go.Proofs.Ytaolpeimlkpkbaa

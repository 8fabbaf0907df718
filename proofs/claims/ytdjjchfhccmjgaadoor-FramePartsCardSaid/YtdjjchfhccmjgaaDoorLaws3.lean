/- The laws of frames: Round. -/
import Derived.Test.YtdjjchfhccmjgaaDoorRound
set_option linter.unusedVariables false
set_option linter.unusedSimpArgs false
namespace Go.Proofs.YtdjjchfhccmjgaaDoor
open Go Go.HW
variable {h : Heap} {L : List Assn} {Q : Value → Heap → Prop}
theorem encE_is {f : Fm} (e : encE f ≠ 0) : encE f = 182 ∨ encE f = 180 := by
  unfold encE at e ⊢
  repeat' split
  all_goals simp_all
theorem round_loop {h0 : Heap} {a : Option Addr} {n c : Nat} {l : List Fm} {K : Ex → Fr → Heap → Prop} (tab : Tab h0) (hr : Rd h0 a (l.flatMap frV)) (hn : l.length = n) (hmax : n ≤ 1000)
    (kr : ∀ h', ExtB h0.size h0 h' → K .ret (law18_FrameRound_Xret true) h')
    (kk : (∀ f ∈ l, encE f = 0) → ∀ h' aa ac, (l.flatMap encB).length ≤ 20010000 → Hs h' (own aa (l.flatMap encB).length ac T_uint8 1 (nV (l.flatMap encB)) :: [ro h0]) → K (.exit 0) (law18_FrameRound_X0 a n c aa (l.flatMap encB).length ac) h') :
    ∀ (k i : Nat) {h : Heap} {aa : Option Addr} {ac : Nat} {bs : List Nat}, i + k = n → (∀ f ∈ l.take i, encE f = 0) → bs = (l.take i).flatMap encB → bs.length ≤ 20010 * i → Hs h (own aa bs.length ac T_uint8 1 (nV bs) :: [ro h0]) → law18_FrameRound_L111010 a n c aa bs.length ac i K h := by
  intro k
  induction k with
  | zero =>
    intro i h aa ac bs hi he hb hl H
    refine law18_FrameRound_L111010_of (br_false (decide_eq_false (by omega)) ?_)
    rw [List.take_of_length_le (by omega)] at he hb
    subst hb
    exact kk he h aa ac (by omega) H
  | succ k ih =>
    intro i h aa ac bs hi he hb hl H
    have t : TabL [ro h0] := TabL.ro tab
    have hil : i < l.length := by omega
    refine law18_FrameRound_L111010_of (br_true (decide_eq_true (by omega)) ?_)
    refine idxf (l := l) (φ := frV) (x := l[i]) E_sl_api_Frame (H.tl.ro_rd hr) (fun _ => rfl) (by omega) (by omega) (by omega) (by simp) fun t1 ht => ⟨_, ht.2.1, ?_⟩
    have J : ∀ b : Bool, law18_FrameRound_J111010010001 a n c aa bs.length ac i b K h := by
      intro b
      refine law18_FrameRound_J111010010001_of ((br_iff _ _ _).2 ⟨fun _ => ?_, fun _ => ?_⟩)
      · exact awake_spec t.cons H fun h2 H2 => ⟨_, rfl, kr _ H2.tl.ro_below⟩
      refine idxf (l := l) (φ := frV) (x := l[i]) E_sl_api_Frame (H.tl.ro_rd hr) (fun _ => rfl) (by omega) (by omega) (by omega) (by simp) fun t2 ht2 => ⟨_, _, ht2, ?_⟩
      refine Encode_spec (f := l[i]) t.cons H (fun e h3 H3 => ⟨_, _, _, _, rfl, ?_⟩) (fun e h3 a3 c3 H3 => ⟨_, _, _, _, rfl, ?_⟩)
      · refine br_true (by simpa using e) ?_
        refine awake_spec t.cons H3 fun h4 H4 => ⟨_, rfl, br_true rfl (br_true rfl ?_)⟩
        rcases encE_is e with e2 | e2 <;> rw [e2]
        · exact br_true rfl (kr _ H4.tl.ro_below)
        · exact br_false rfl (kr _ H4.tl.ro_below)
      · refine br_false rfl ?_
        refine idxf (l := l) (φ := frV) (x := l[i]) E_sl_api_Frame (H3.tl.tl.ro_rd hr) (fun _ => rfl) (by omega) (by omega) (by omega) (by simp) fun t5 ht5 => ⟨_, ht5.2.1, ?_⟩
        have hk := enc_ok e
        have w9 : IntKind.i64.wrap ((l[i].body.size : Int) + 9) = ((l[i].body.size + 9 : Nat) : Int) := by rw [wrap_i64_z (by omega) (by omega)]; simp
        simp only [w9]
        refine br_false (by simp) ?_
        refine H3.m1.app_sl E_sl_uint8 (ys := nV (encB l[i])) (m := l[i].body.size + 9) H3.rd (by rw [nV_len, enc_len]; omega) (fun e => by subst e; have := H3.own_none; have := H3.own_le; omega) (nV_one _) (fun h6 a6 c6 H6 => ⟨_, _, _, rfl, ?_⟩) (by omega) (by omega)
        simp only [inc (show i < 2 ^ 62 by omega)]
        have hlen : (bs ++ encB l[i]).length = bs.length + (l[i].body.size + 9) := by rw [List.length_append, enc_len]
        rw [← nV_app, ← hlen] at H6
        rw [← hlen]
        have e1 : l.take (i + 1) = l.take i ++ [l[i]] := List.take_succ_eq_append_getElem hil
        refine ih (i + 1) (by omega) ?_ ?_ (by omega) (H6.m1.tl)
        · rw [e1]; intro f hf
          rcases List.mem_append.1 hf with hf | hf
          · exact he f hf
          · rw [List.mem_singleton.1 hf]; exact e
        · rw [e1, List.flatMap_append, hb]; simp
    exact (br_iff _ _ _).2 ⟨fun _ => J _, fun _ => J _⟩
theorem encs_lt {l : List Fm} (h : ∀ f ∈ l, encE f = 0) : ∀ x ∈ l.flatMap encB, x < 256 := by
  intro x hx
  obtain ⟨f, hf, hx⟩ := List.mem_flatMap.1 hx
  exact enc_lt (enc_ok (h f hf)).1 x hx
theorem FrameRound_spec {a : Option Addr} {n c : Nat} {l : List Fm} (tab : Tab h) (hr : Rd h a (l.flatMap frV)) (hn : l.length = n) (HQ : ∀ h', ExtB h.size h h' → Q (.bool true) h') : SpecH PP F_law18_FrameRound [.slice a n c] h Q := by
  refine law18_FrameRound_door ?_
  unfold law18_FrameRound_main
  have H0 := Hs.start h
  have t : TabL [ro h] := TabL.ro tab
  refine (br_iff _ _ _).2 ⟨fun _ => awake_spec t H0 fun h2 H2 => ⟨_, rfl, HQ _ H2.ro_below⟩, fun e0 => ?_⟩
  have hmax : n ≤ 1000 := by have := of_decide_eq_false e0; omega
  refine round_loop tab hr hn hmax (fun h' e => ?_) (fun he h' aa ac hle H => ?_) n 0 (bs := []) (by omega) (by simp) (by simp) (by simp) (H0.own_nil T_uint8 1)
  · rw [law18_FrameRound_at111010_Xret]; exact HQ _ e
  rw [law18_FrameRound_at111010_X0]
  refine FNew_spec H fun h1 d H1 => ⟨_, rfl, br_false rfl ?_⟩
  refine Feed_spec (xs := l.flatMap encB) t.cons Gv.own rfl (fun e => by subst e; have := H1.m1.own_none; have := H1.m1.own_le; omega) (encs_lt he) (by simp only [List.length_nil]; omega) H1 (fun e => absurd rfl e) fun _ h2 fa fc H2 => ?_
  rw [List.nil_append, rd_encs l he] at H2 ⊢
  refine ⟨_, _, _, _, rfl, ?_⟩
  refine awake_spec t.cons.cons.cons H2 fun h3 H3 => ⟨_, rfl, br_true rfl (br_true rfl ?_)⟩
  rw [show l.length = n from hn]
  refine Same_spec (H3.m1).rd (H3.tl.tl.tl.ro_rd hr) hn (by omega) ⟨_, rfl, br_true rfl ?_⟩
  refine Wants_spec (by simp) H3 fun h4 H4 => ⟨_, rfl, br_true rfl ?_⟩
  exact Wrong_spec H4 ⟨_, rfl, HQ _ H4.tl.tl.tl.ro_below⟩
end Go.Proofs.YtdjjchfhccmjgaaDoor

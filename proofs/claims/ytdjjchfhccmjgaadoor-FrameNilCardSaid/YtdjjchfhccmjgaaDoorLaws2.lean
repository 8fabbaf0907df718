/- The laws of frames: Encodes. -/
import Derived.Test.YtdjjchfhccmjgaaDoorLaws
set_option linter.unusedVariables false
set_option linter.unusedSimpArgs false
namespace Go.Proofs.YtdjjchfhccmjgaaDoor
open Go Go.HW
variable {h : Heap} {L : List Assn} {Q : Value → Heap → Prop}
theorem seven_loop {f1 : Addr} {a w : Option Addr} {n c wn wc : Nat} {e g : Int} {b1 : Bool} {K : Ex → Fr → Heap → Prop} (hmax : n < 2 ^ 60) (kk : ∀ h', Hs h' L → K (.exit 0) (law18_FrameEncodes_X0 f1 e w wn wc g b1) h') :
    ∀ (k i : Nat) {h : Heap} {l : List Nat}, i + k = n → Hs h (own a n c T_uint8 1 (nV l) :: L) → law18_FrameEncodes_L11111010 f1 a n c e w wn wc g b1 i K h := by
  intro k
  induction k with
  | zero => intro i h l hi H; exact law18_FrameEncodes_L11111010_of (br_false (decide_eq_false (by omega)) (kk h H.tl))
  | succ k ih =>
    intro i h l hi H
    refine law18_FrameEncodes_L11111010_of (br_true (decide_eq_true (by omega)) ?_)
    refine H.idx_set E_sl_uint8 (by omega) (by omega) rfl fun h2 H2 => ?_
    have e7 : (nV l).set ((i : Int).toNat) (.int .u8 7) = nV (l.set i 7) := by rw [Int.toNat_natCast]; simp [nV, List.map_set]
    rw [e7] at H2
    simp only [inc (show i < 2 ^ 62 by omega)]
    exact ih (i + 1) (by omega) H2
theorem FrameEncodes_spec {f : Fm} (tab : Tab h) (HQ : ∀ h', ExtB h.size h h' → Q (.bool true) h') : SpecH PP F_law18_FrameEncodes [.agg (frV f).toArray] h Q := by
  refine law18_FrameEncodes_door ?_
  unfold law18_FrameEncodes_main
  have t : TabL [ro h] := TabL.ro tab
  have H1 := (Hs.start h).new (t := T_api_Frame) (cs := #[.int .i64 f.kind, .string f.body]) (xs := frV f)
  refine ⟨_, H1.cell (off := 1) rfl, (br_iff _ _ _).2 ⟨fun _ => awake_spec t.cons H1 fun h2 H2 => ⟨_, rfl, HQ _ H2.tl.ro_below⟩, fun e0 => ⟨_, _, H1.rdc0, ?_⟩⟩⟩
  have hs : f.body.size ≤ 1048576 := by have := of_decide_eq_false e0; omega
  by_cases e : encE f = 0
  · refine Encode_spec t.cons H1 (fun e' => absurd e e') fun _ h2 a2 c2 H2 => ⟨_, _, _, _, rfl, _, _, H2.m1.rdc0, ?_⟩
    refine rEncode_spec H2 (fun e' => absurd e e') fun _ h3 a3 c3 H3 => ⟨_, _, _, _, rfl, ?_⟩
    refine keepBytes_spec H3.m1.rd H3.rd (enc_len f) (enc_len f) (by omega) ⟨_, rfl, ?_⟩
    refine seven_loop (by omega) (fun h4 H4 => ?_) (f.body.size + 9) 0 (by omega) H3.m1
    rw [law18_FrameEncodes_at11111010_X0]
    refine ⟨_, _, H4.m1.rdc0, ?_⟩
    refine Encode_spec t.cons.cons H4 (fun e' => absurd e e') fun _ h5 a5 c5 H5 => ⟨_, _, _, _, rfl, ?_⟩
    refine awake_spec t.cons.cons.cons H5 fun h6 H6 => ⟨_, rfl, br_true rfl (br_true (by simp) (br_true (by simp) ?_))⟩
    refine keepBytes_spec H6.rd H6.m1.rd (enc_len f) (enc_len f) (by omega) ⟨_, rfl, ?_⟩
    rw [decide_eq_true rfl]
    exact HQ _ (H6.tl.tl.tl.ro_below)
  · refine Encode_spec t.cons H1 (fun _ h2 H2 => ⟨_, _, _, _, rfl, _, _, H2.rdc0, ?_⟩) fun e' => absurd e' e
    refine rEncode_spec H2 (fun _ h3 H3 => ⟨_, _, _, _, rfl, ?_⟩) fun e' => absurd e' e
    refine keepBytes_spec (xs := []) (ys := []) (Rd.nil _ _) (Rd.nil _ _) rfl rfl (by omega) ⟨_, rfl, ?_⟩
    refine seven_loop (l := []) (by omega) (fun h4 H4 => ?_) 0 0 (by omega) (H3.own_nil T_uint8 1)
    rw [law18_FrameEncodes_at11111010_X0]
    refine ⟨_, _, H4.rdc0, ?_⟩
    refine Encode_spec t.cons H4 (fun _ h5 H5 => ⟨_, _, _, _, rfl, ?_⟩) fun e' => absurd e' e
    refine awake_spec t.cons H5 fun h6 H6 => ⟨_, rfl, br_true rfl (br_true (by simp) (br_true (by simp) ?_))⟩
    refine keepBytes_spec (xs := []) (ys := []) (Rd.nil _ _) (Rd.nil _ _) rfl rfl (by omega) ⟨_, rfl, ?_⟩
    rw [decide_eq_true rfl]
    exact HQ _ (H6.tl.ro_below)
end Go.Proofs.YtdjjchfhccmjgaaDoor

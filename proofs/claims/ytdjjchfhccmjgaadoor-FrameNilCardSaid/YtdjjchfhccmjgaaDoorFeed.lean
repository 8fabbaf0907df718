/- Contracts of package frame: the decoder. -/
import Derived.Test.YtdjjchfhccmjgaaDoorEnc
import Derived.Test.YtdjjchfhccmjgaaDoorKLend
set_option linter.unusedVariables false
set_option linter.unusedSimpArgs false
namespace Go.Proofs.YtdjjchfhccmjgaaDoor
open Go Go.HW
variable {h : Heap} {L : List Assn} {Q : Value → Heap → Prop}
abbrev P_ (p : Nat) : Value := .pointer (some ⟨p, 0, none⟩)
def Dec (d : Nat) (buf : List Nat) (w : Int) : Assn := fun m => ∃ ba bc, (∀ x ∈ buf, x < 256) ∧ Sp [pt d T_frame_Decoder [.slice ba buf.length bc, .int .i64 w], own ba buf.length bc T_uint8 1 (nV buf)] m
theorem Dec_iff {d : Nat} {buf : List Nat} {w : Int} : Hs h (Dec d buf w :: L) ↔ ∃ ba bc, (∀ x ∈ buf, x < 256) ∧ Hs h (pt d T_frame_Decoder [.slice ba buf.length bc, .int .i64 w] :: own ba buf.length bc T_uint8 1 (nV buf) :: L) := by
  unfold Dec; simp only [Hs.ex, Hs.and, Hs.app, List.cons_append, List.nil_append]
theorem FNew_spec (H : Hs h L) (kk : ∀ h' d, Hs h' (Dec d [] 0 :: L) → Q (P_ d) h') : SpecH PP F_frame_New [] h Q := by
  refine frame_New_door ?_
  unfold frame_New_main
  have H1 := H.own_nil T_uint8 1
  have H2 := H1.new (t := T_frame_Decoder) (cs := #[.slice none 0 0, .int .i64 0]) (xs := [.slice none 0 0, .int .i64 0])
  exact kk _ h.size (Dec_iff.2 ⟨none, 0, (fun x hx => by cases hx), H2⟩)
theorem Wrong_spec {d : Nat} {buf : List Nat} {w : Int} (H : Hs h (Dec d buf w :: L)) (kk : Q (.int .i64 w) h) : SpecH PP F_frame_Decoder_Wrong [P_ d] h Q := by
  refine frame_Decoder_Wrong_door ?_
  unfold frame_Decoder_Wrong_main
  obtain ⟨ba, bc, hx, H1⟩ := Dec_iff.1 H
  exact br_false rfl ⟨_, H1.cell (off := 1) rfl, kk⟩
/-- How many bytes a stream still wants. -/
def wants (buf : List Nat) : Int := (if buf.length < 4 then 9 else 9 + get4 (buf.take 4) : Nat) - buf.length
theorem Wants_spec {d : Nat} {buf : List Nat} {w : Int} (hl : buf.length < 2 ^ 40) (H : Hs h (Dec d buf w :: L)) (kk : ∀ h', Hs h' (Dec d buf w :: L) → Q (.int .i64 (if w = 0 then wants buf else 0)) h') : SpecH PP F_frame_Decoder_Wants [P_ d] h Q := by
  refine frame_Decoder_Wants_door ?_
  unfold frame_Decoder_Wants_main
  obtain ⟨ba, bc, hx, H1⟩ := Dec_iff.1 H
  refine br_false rfl ⟨_, H1.cell (off := 1) rfl, ?_⟩
  by_cases e : w = 0
  · subst e
    rw [if_pos rfl] at kk
    refine frame_Decoder_Wants_J101_of (br_false rfl ⟨_, _, _, H1.cell (off := 0) rfl, ?_⟩)
    have hnc := H1.m1.own_le
    refine Get32_hs (j := 0) hx H1.m1.rd rfl hnc hl H1 (fun e h2 H2 => ⟨_, _, rfl, br_false rfl ?_⟩) (fun e h2 H2 => ⟨_, _, rfl, br_true rfl ?_⟩)
    · refine frame_Decoder_Wants_J1111_of ⟨_, _, _, H2.cell (off := 0) rfl, ?_⟩
      have := kk h2 (Dec_iff.2 ⟨ba, bc, hx, H2⟩)
      unfold wants at this
      rw [if_pos (by omega)] at this
      show Q (.int .i64 (IntKind.i64.wrap (9 - (buf.length : Int)))) h2
      rw [wrap_i64_z (by omega) (by omega)]; exact this
    · have g := get4_lt (xs := (buf.drop 0).take 4) (by rw [List.length_take]; omega)
      refine frame_Decoder_Wants_J1111_of ⟨_, _, _, H2.cell (off := 0) rfl, ?_⟩
      have := kk h2 (Dec_iff.2 ⟨ba, bc, hx, H2⟩)
      unfold wants at this
      rw [if_neg (by omega)] at this
      show Q (.int .i64 (IntKind.i64.wrap (IntKind.i64.wrap (9 + IntKind.i64.wrap (get4 ((buf.drop 0).take 4) : Int)) - (buf.length : Int)))) h2
      rw [wrap_i64_z (z := (get4 _ : Int)) (by omega) (by omega), wrap_i64_z (z := 9 + _) (by omega) (by omega), wrap_i64_z (by omega) (by omega)]
      rw [List.drop_zero]; exact this
  · rw [if_neg e] at kk
    rw [show (w != 0) = true by simpa using e]
    exact frame_Decoder_Wants_J101_of (br_true rfl (kk h H))
end Go.Proofs.YtdjjchfhccmjgaaDoor

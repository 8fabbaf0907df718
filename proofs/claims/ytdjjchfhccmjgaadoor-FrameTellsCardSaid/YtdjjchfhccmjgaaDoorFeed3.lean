/- Contracts of package frame: Feed, whole. -/
import Derived.Test.YtdjjchfhccmjgaaDoorFeed2
set_option linter.unusedVariables false
set_option linter.unusedSimpArgs false
namespace Go.Proofs.YtdjjchfhccmjgaaDoor
open Go Go.HW
variable {h : Heap} {L : List Assn} {Q : Value → Heap → Prop}
theorem rd_rest_lt : ∀ (k : Nat) (bs : List Nat), bs.length ≤ k → (∀ x ∈ bs, x < 256) → (∀ x ∈ (rd bs).2.2, x < 256) ∧ (rd bs).2.2.length ≤ bs.length ∧ (rd bs).1.length ≤ bs.length := by
  intro k
  induction k with
  | zero =>
    intro bs hk hx
    rw [rd_wait (by unfold nx; rw [if_pos (by omega)])]; exact ⟨hx, Nat.le_refl _, by simp⟩
  | succ k ih =>
    intro bs hk hx
    cases N : nx bs with
    | wait => rw [rd_wait N]; exact ⟨hx, Nat.le_refl _, by simp⟩
    | bad e => rw [rd_bad N]; exact ⟨hx, Nat.le_refl _, by simp⟩
    | got f n =>
      have hg := nx_got N
      obtain ⟨a, b, c⟩ := ih (bs.drop n) (by rw [List.length_drop]; omega) (fun x hm => hx x (List.mem_of_mem_drop hm))
      rw [rd_got N]
      rw [List.length_drop] at b c
      refine ⟨a, by simp only []; omega, by simp only [List.length_cons]; omega⟩
theorem Feed_spec {d n c : Nat} {a : Option Addr} {buf xs : List Nat} {w : Int} (t : TabL L) (hr : Gv L a (nV xs)) (hn : xs.length = n) (hn0 : a = none → n = 0) (hx : ∀ x ∈ xs, x < 256) (hl : buf.length + n < 2 ^ 30) (H : Hs h (Dec d buf w :: L))
    (k1 : w ≠ 0 → ∀ h', Hs h' (Dec d buf w :: L) → Q (.tuple #[.slice none 0 0, .int .i64 w]) h')
    (k2 : w = 0 → ∀ h' fa fc, Hs h' (Dec d (rd (buf ++ xs)).2.2 (rd (buf ++ xs)).2.1 :: FO fa fc (rd (buf ++ xs)).1 :: L) → Q (.tuple #[.slice fa (rd (buf ++ xs)).1.length fc, .int .i64 (rd (buf ++ xs)).2.1]) h') :
    SpecH PP F_frame_Decoder_Feed [P_ d, .slice a n c] h Q := by
  refine frame_Decoder_Feed_door ?_
  unfold frame_Decoder_Feed_main
  obtain ⟨ba, bc, hb, H1⟩ := Dec_iff.1 H
  refine frame_Decoder_Feed_S1_of (br_false rfl ⟨_, H1.cell (off := 1) rfl, ?_⟩)
  by_cases e : w = 0
  · subst e
    refine br_false rfl ⟨_, _, _, H1.cell (off := 0) rfl, ?_⟩
    refine H1.m1.app_sl E_sl_uint8 (hr _ H1.tl.tl) (by rw [nV_len, hn, Nat.mul_one]) hn0 (nV_one _) (fun h2 a2 c2 H2 => ⟨_, _, _, rfl, ?_⟩) (by omega) (by omega)
    refine H2.m1.sto (off := 0) (by simp) fun h3 H3 => ?_
    have hx2 : ∀ x ∈ buf ++ xs, x < 256 := fun x hm => (List.mem_append.1 hm).elim (hb x) (hx x)
    have H4 : Hs h3 (FS d a2 c2 (buf ++ xs) 0 (FO none 0 [] :: L)) := by
      have H5 := (H3.own_nil T_api_Frame 2).r2
      unfold FS FO
      rw [List.length_append, hn, nV_app]; exact H5
    have hlen : (buf ++ xs).length < 2 ^ 30 := by rw [List.length_append, hn]; exact hl
    refine feed_loop t (buf ++ xs).length (out := []) (Nat.le_refl _) hx2 (by omega) (by simp only [List.length_nil]; omega) H4 fun h5 ba bc oa oc H5 => ?_
    rw [frame_Decoder_Feed_at1_Xret]
    rw [List.nil_append] at H5 ⊢
    have hrest := (rd_rest_lt _ (buf ++ xs) (Nat.le_refl _) hx2).1
    exact k2 rfl h5 oa oc (Dec_iff.2 ⟨ba, bc, hrest, H5⟩)
  · refine br_true (by simpa using e) ⟨_, H1.cell (off := 1) rfl, ?_⟩
    rw [frame_Decoder_Feed_at1_Xret]
    exact k1 e h H
theorem Feed_nil {n c : Nat} {a : Option Addr} (kk : Q (.tuple #[.slice none 0 0, .int .i64 3]) h) : SpecH PP F_frame_Decoder_Feed [.pointer none, .slice a n c] h Q := by
  refine frame_Decoder_Feed_door ?_
  unfold frame_Decoder_Feed_main
  refine frame_Decoder_Feed_S1_of (br_true rfl ?_)
  rw [frame_Decoder_Feed_at1_Xret]; exact kk
theorem Wrong_nil (kk : Q (.int .i64 3) h) : SpecH PP F_frame_Decoder_Wrong [.pointer none] h Q :=
  frame_Decoder_Wrong_door (by unfold frame_Decoder_Wrong_main; exact br_true rfl kk)
theorem Wants_nil (kk : Q (.int .i64 0) h) : SpecH PP F_frame_Decoder_Wants [.pointer none] h Q :=
  frame_Decoder_Wants_door (by unfold frame_Decoder_Wants_main; exact br_true rfl (frame_Decoder_Wants_J101_of (br_true rfl kk)))
end Go.Proofs.YtdjjchfhccmjgaaDoor

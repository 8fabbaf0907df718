/- The decoder at work on a fixed case. -/
import Derived.Test.YtdjjchfhccmjgaaDoorSame
set_option linter.unusedVariables false
set_option linter.unusedSimpArgs false
namespace Go.Proofs.YtdjjchfhccmjgaaDoor
open Go Go.HW
variable {h : Heap} {L : List Assn} {Q : Value → Heap → Prop}
def f0 : Fm := ⟨1, ⟨#[]⟩⟩
theorem enc0 : encB f0 = [0, 0, 0, 0, 1, 27, 223, 5, 165] := by decide +kernel
theorem nx0 : nx [0, 0, 0, 0, 1] = .wait := by kernel_rfl
theorem nx1 : nx [0, 0, 0, 0, 1, 27, 223, 5, 165, 33, 78, 0, 0] = .got f0 9 := by kernel_rfl
theorem nx2 : nx [33, 78, 0, 0] = .bad 180 := by kernel_rfl
theorem rdA : rd [0, 0, 0, 0, 1] = ([], 0, [0, 0, 0, 0, 1]) := rd_wait nx0
theorem rdB : rd [0, 0, 0, 0, 1, 27, 223, 5, 165, 33, 78, 0, 0] = ([f0], 180, [33, 78, 0, 0]) := by
  rw [rd_got nx1, show ([0, 0, 0, 0, 1, 27, 223, 5, 165, 33, 78, 0, 0] : List Nat).drop 9 = [33, 78, 0, 0] from rfl, rd_bad nx2]
theorem awake_spec (t : TabL L) (H : Hs h L) (kk : ∀ h', Hs h' L → Q (.bool true) h') : SpecH PP F_law18_awake [] h Q := by
  refine law18_awake_door ?_
  unfold law18_awake_main
  refine Encode_spec (f := f0) t H (fun e => absurd (by decide) e) fun _ h1 a c H1 => ⟨_, _, _, _, rfl, ?_⟩
  have e9 : f0.body.size + 9 = 9 := by decide
  rw [e9, enc0] at H1
  rw [e9]
  refine FNew_spec H1 fun h2 d H2 => ⟨_, rfl, br_false rfl ?_⟩
  refine law18_awake_J11101_of (br_false rfl ?_)
  have hle := H2.m1.own_le
  obtain ⟨b, off, ys, rfl, _⟩ := H2.m1.own_pt (by omega)
  refine slice_pre (m := 5) E_sl_uint8 (by omega) ⟨_, _, _, rfl, ?_⟩
  have G : ∀ {M : List Assn}, Gv (own (some ⟨b, off, none⟩) 9 c T_uint8 1 (nV [0, 0, 0, 0, 1, 27, 223, 5, 165]) :: M) (some ⟨b, off, none⟩) (nV [0, 0, 0, 0, 1, 27, 223, 5, 165]) := Gv.own
  have G5 : ∀ {M : List Assn}, Gv (own (some ⟨b, off, none⟩) 9 c T_uint8 1 (nV [0, 0, 0, 0, 1, 27, 223, 5, 165]) :: M) (some ⟨b, off, none⟩) (nV [0, 0, 0, 0, 1]) := fun {M} => G.take 5
  have l5 : ∀ x ∈ [0, 0, 0, 0, 1], x < 256 := by decide
  have l9 : ∀ x ∈ [0, 0, 0, 0, 1, 27, 223, 5, 165], x < 256 := by decide
  refine Feed_spec (xs := [0, 0, 0, 0, 1]) t.cons G5 rfl (fun e => nomatch e) l5 (by decide) H2 (fun e => absurd rfl e) fun _ h3 fa fc H3 => ?_
  rw [List.nil_append, rdA] at H3 ⊢
  refine ⟨_, _, _, _, rfl, ?_⟩
  refine Wants_spec (by decide) H3 fun h4 H4 => ⟨_, rfl, ?_⟩
  have H5 : Hs h4 (Dec d [0, 0, 0, 0, 1] 0 :: own (some ⟨b, off, none⟩) 9 c T_uint8 1 (nV [0, 0, 0, 0, 1, 27, 223, 5, 165]) :: L) := (H4.m1).tl
  have H6 : Hs (h4.push (.cells #[] T_uint8 (0, 0))) (pt h4.size T_uint8 [] :: _) := H5.new
  have H7 := H6.pt_all (n := 0) rfl
  have hc0 : (some ⟨b, off, none⟩ : Option Addr) = none → c = 0 := fun e => nomatch e
  refine slice_rds (lo := some (.int .i64 5)) (hi := none) E_sl_uint8 (H7.m2).rd (H7.m2).own_len (H7.m2).own_le trivial trivial (by simp [bnd]) (by simp [bnd]) (by simp [bnd]) hc0 fun a8 r8 n8 => ⟨_, _, _, rfl, ?_⟩
  simp only [bnd] at r8 n8 ⊢
  refine H7.app_sl E_sl_uint8 (ys := nV [27, 223, 5, 165]) (m := 4) r8 rfl n8 (nV_one _) (fun h9 a9 c9 H9 => ⟨_, _, _, rfl, ?_⟩) (by omega) (by omega)
  have H10 := H9.new (t := T_uint8) (cs := #[.int .u8 33, .int .u8 78, .int .u8 0, .int .u8 0]) (xs := nV [33, 78, 0, 0])
  have r10 : Rd _ (some ⟨h9.size, 0, none⟩) (nV [33, 78, 0, 0]) := H10.ptrd rfl
  refine H10.m1.app_sl E_sl_uint8 (ys := nV [33, 78, 0, 0]) (m := 4) r10 rfl (fun e => nomatch e) (nV_one _) (fun h11 a11 c11 H11 => ⟨_, _, _, rfl, ?_⟩) (by omega) (by omega)
  -- own, row, decoder, b1, L
  have H12 : Hs h11 (Dec d [0, 0, 0, 0, 1] 0 :: own a11 8 c11 T_uint8 1 (nV [27, 223, 5, 165, 33, 78, 0, 0]) :: own (some ⟨b, off, none⟩) 9 c T_uint8 1 (nV [0, 0, 0, 0, 1, 27, 223, 5, 165]) :: L) := (H11.m1.tl).m1
  refine Feed_spec (xs := [27, 223, 5, 165, 33, 78, 0, 0]) t.cons.cons Gv.own rfl (fun e => by subst e; have := H12.m1.own_none; have := H12.m1.own_le; omega) (by decide) (by decide) H12 (fun e => absurd rfl e) fun _ h13 fa2 fc2 H13 => ?_
  have eB : ([0, 0, 0, 0, 1] : List Nat) ++ [27, 223, 5, 165, 33, 78, 0, 0] = [0, 0, 0, 0, 1, 27, 223, 5, 165, 33, 78, 0, 0] := rfl
  rw [eB, rdB] at H13 ⊢
  refine ⟨_, _, _, _, rfl, ?_⟩
  refine Feed_spec (xs := [0, 0, 0, 0, 1, 27, 223, 5, 165]) t.cons.cons.cons (Gv.own.cons.cons) rfl (fun e => nomatch e) l9 (by decide) H13 (fun _ h14 H14 => ⟨_, _, _, _, rfl, br_true rfl ?_⟩) (fun e => absurd e (by decide))
  have H15 := H14.new (t := T_uint8) (cs := #[.int .u8 0, .int .u8 0, .int .u8 0, .int .u8 0, .int .u8 1, .int .u8 27, .int .u8 223, .int .u8 5, .int .u8 165]) (xs := nV [0, 0, 0, 0, 1, 27, 223, 5, 165])
  -- row, decoder, frames, own, b1, L
  refine keepBytes_spec (xs := [0, 0, 0, 0, 1, 27, 223, 5, 165]) (ys := [0, 0, 0, 0, 1, 27, 223, 5, 165]) (H15.m4).rd (H15.ptrd rfl) rfl rfl (by decide) ⟨_, rfl, br_true rfl (br_true rfl (br_true rfl (br_true rfl ?_)))⟩
  have H16 := H15.new (t := T_api_Frame) (cs := #[.int .i64 1, .string ⟨#[]⟩]) (xs := frV f0)
  have H16' : Hs _ (own fa2 1 fc2 T_api_Frame 2 ([f0].flatMap frV) :: _) := H16.m3
  refine Same_spec (l := [f0]) H16'.rd (H16.ptrd rfl) rfl (by decide) ⟨_, rfl, br_true rfl (br_true rfl (br_true rfl (br_true rfl ?_)))⟩
  refine Wrong_spec H16.m2 ⟨_, rfl, br_true rfl ?_⟩
  refine Wants_spec (by decide) H16.m2 fun h17 H17 => ⟨_, rfl, kk h17 H17.tl.tl.tl.tl.tl.tl⟩
end Go.Proofs.YtdjjchfhccmjgaaDoor

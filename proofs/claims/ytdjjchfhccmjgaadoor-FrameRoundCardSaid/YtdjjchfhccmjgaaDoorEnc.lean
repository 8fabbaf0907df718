/- Contracts of package frame: Encode, and the ref's. -/
import Derived.Test.YtdjjchfhccmjgaaDoorFrame
set_option linter.unusedVariables false
set_option linter.unusedSimpArgs false
namespace Go.Proofs.YtdjjchfhccmjgaaDoor
open Go Go.HW
variable {h : Heap} {L : List Assn} {Q : Value → Heap → Prop}
def mid (f : Fm) : List Nat := f.kind.toNat :: sb f.body
def encB (f : Fm) : List Nat := le4 f.body.size ++ mid f ++ le4 (crc (mid f))
def encE (f : Fm) : Int := if f.kind < 1 ∨ f.kind > 255 then 182 else if f.body.size > 20000 then 180 else 0
theorem mid_lt {f : Fm} (h : 1 ≤ f.kind ∧ f.kind ≤ 255) : ∀ x ∈ mid f, x < 256 := by
  intro x hx
  rcases List.mem_cons.1 hx with rfl | hx
  · omega
  · exact sb_lt hx
theorem mid_len (f : Fm) : (mid f).length = f.body.size + 1 := by simp [mid, sb_len]
theorem enc_len (f : Fm) : (encB f).length = f.body.size + 9 := by unfold encB; rw [List.length_append, List.length_append, le4_len, le4_len, mid_len]; omega
theorem enc_lt {f : Fm} (h : 1 ≤ f.kind ∧ f.kind ≤ 255) : ∀ x ∈ encB f, x < 256 := by
  intro x hx
  unfold encB at hx
  rcases List.mem_append.1 hx with hx | hx
  · rcases List.mem_append.1 hx with hx | hx
    · exact le4_lt hx
    · exact mid_lt h x hx
  · exact le4_lt hx
theorem frame_end {f1 : Nat} {f : Fm} {a : Option Addr} {c : Nat} (t : TabL L) (hk : 1 ≤ f.kind ∧ f.kind ≤ 255) (hs : f.body.size ≤ 20000) (H : Hs h (own a 5 c T_uint8 1 (nV (le4 f.body.size ++ [f.kind.toNat])) :: pt f1 T_api_Frame (frV f) :: L))
    (kk : ∀ h' a c, Hs h' (own a (f.body.size + 9) c T_uint8 1 (nV (encB f)) :: L) → Q (.tuple #[.slice a (f.body.size + 9) c, .int .i64 0]) h') : frame_Encode_J111 ⟨f1, 0, none⟩ a 5 c Q h := by
  refine frame_Encode_J111_of ⟨_, H.m1.cell (off := 1) rfl, ?_⟩
  refine H.app_str E_sl_uint8 U_string (fun h2 a2 c2 H2 => ⟨_, _, _, rfl, ?_⟩) (by omega) (by omega)
  have ev : nV (le4 f.body.size ++ [f.kind.toNat]) ++ f.body.data.toList.map (fun b => Value.int .u8 b.toNat) = nV (le4 f.body.size ++ mid f) := by
    have e1 : f.body.data.toList.map (fun b => Value.int .u8 b.toNat) = nV (sb f.body) := by simp [nV, sb]
    rw [e1, ← nV_app, List.append_assoc]; rfl
  rw [ev] at H2
  have hX : (le4 f.body.size ++ mid f).length = 5 + f.body.size := by rw [List.length_append, le4_len, mid_len]; omega
  have hlt : ∀ x ∈ le4 f.body.size ++ mid f, x < 256 := fun x hx => (List.mem_append.1 hx).elim le4_lt (mid_lt hk x)
  refine slice_rds (lo := some (.int .i64 4)) (hi := none) E_sl_uint8 H2.rd H2.own_len H2.own_le trivial trivial (by simp [bnd]) (by simp [bnd]; omega) (by simp [bnd]) (fun e => by subst e; exact H2.own_none) fun a3 r3 n3 => ⟨_, _, _, rfl, ?_⟩
  simp only [bnd, Int.toNat_natCast] at r3 ⊢
  have er : ((nV (le4 f.body.size ++ mid f)).drop (Int.toNat 4 * 1)).take ((5 + f.body.size - Int.toNat 4) * 1) = nV (mid f) := by
    show ((nV (le4 f.body.size ++ mid f)).drop 4).take _ = _
    rw [nV_app, List.drop_append, List.drop_of_length_le (by rw [nV_len, le4_len]; exact Nat.le_refl _), nV_len, le4_len, List.nil_append, Nat.sub_self, List.drop_zero, List.take_of_length_le (by rw [nV_len, mid_len]; show _ ≤ (5 + f.body.size - 4) * 1; omega)]
  rw [er] at r3
  refine Sum_hs t.cons.cons (mid_lt hk) r3 (by rw [mid_len]; show _ = 5 + f.body.size - 4; omega) (by show 5 + f.body.size - 4 < _; omega) H2 ⟨_, rfl, ?_⟩
  refine Put32_hs (crc_lt _) hlt H2.rd hX (by omega) H2 fun h4 a4 c4 H4 => ⟨_, _, _, rfl, ?_⟩
  have e9 : 5 + f.body.size + 4 = f.body.size + 9 := by omega
  rw [e9] at H4 ⊢
  exact kk h4 a4 c4 (((H4.m1).tl.m1).tl)
theorem Encode_spec {f : Fm} (t : TabL L) (H : Hs h L) (k1 : encE f ≠ 0 → ∀ h', Hs h' L → Q (.tuple #[.slice none 0 0, .int .i64 (encE f)]) h')
    (k2 : encE f = 0 → ∀ h' a c, Hs h' (own a (f.body.size + 9) c T_uint8 1 (nV (encB f)) :: L) → Q (.tuple #[.slice a (f.body.size + 9) c, .int .i64 0]) h') : SpecH PP F_frame_Encode [.agg #[.int .i64 f.kind, .string f.body]] h Q := by
  refine frame_Encode_door ?_
  unfold frame_Encode_main
  have H1 := H.new (t := T_api_Frame) (cs := #[.int .i64 f.kind, .string f.body]) (xs := frV f)
  generalize h.size = f1 at H1 ⊢
  generalize h.push (.cells #[.int .i64 f.kind, .string f.body] T_api_Frame (0, 0)) = h1 at H1 ⊢
  have c0 : cellH h1 ⟨f1, 0, none⟩ = some (.int .i64 f.kind) := H1.cell (off := 0) rfl
  have c1 : cellH h1 ⟨f1, 1, none⟩ = some (.string f.body) := H1.cell (off := 1) rfl
  have fin : ∀ b : Bool, b = decide (f.kind < 1 ∨ f.kind > 255) → frame_Encode_J1001 ⟨f1, 0, none⟩ b Q h1 := by
    rintro b rfl
    unfold encE at k1 k2
    refine frame_Encode_J1001_of ((br_iff _ _ _).2 ⟨fun e => ?_, fun e => ?_⟩)
    · rw [if_pos (of_decide_eq_true e)] at k1; exact k1 (by decide) h1 H1.tl
    have ek := of_decide_eq_false e
    rw [if_neg ek] at k1 k2
    have hk : 1 ≤ f.kind ∧ f.kind ≤ 255 := by omega
    refine ⟨_, c1, (br_iff _ _ _).2 ⟨fun e2 => ?_, fun e2 => ?_⟩⟩
    · have e3 := of_decide_eq_true e2
      rw [if_pos (by omega)] at k1; exact k1 (by decide) h1 H1.tl
    have e3 := of_decide_eq_false e2
    rw [if_neg (by omega)] at k2
    have hs : f.body.size ≤ 20000 := by omega
    have wk : IntKind.u8.wrap f.kind = f.kind := wrap_u8_z (by omega) (by omega)
    have ws : IntKind.u32.wrap (f.body.size : Int) = (f.body.size : Int) := wrap_u32_id (by omega)
    have ek2 : f.kind = (f.kind.toNat : Int) := by omega
    have P : ∀ {h0 : Heap} {M : List Assn} {R : Value → Heap → Prop}, Hs h0 M → (∀ h' a' c', Hs h' (own a' 4 c' T_uint8 1 (nV (le4 f.body.size)) :: M) → R (.slice a' 4 c') h') → SpecH PP F_little_Put32 [.slice none 0 0, .int .u32 (IntKind.u32.wrap (f.body.size : Int))] h0 R := fun H0 r => by
      rw [ws]
      exact Put32_hs (xs := []) (by omega) (fun x hx => by cases hx) (Rd.nil _ _) rfl (by omega) H0 fun h' a' c' H' => r h' a' c' H'
    have A : ∀ {h0 : Heap} {a : Option Addr} {c kb : Nat}, Hs h0 (own a 4 c T_uint8 1 (nV (le4 f.body.size)) :: pt kb T_uint8 [.int .u8 (IntKind.u8.wrap f.kind)] :: pt f1 T_api_Frame (frV f) :: L) →
        hwp PP (Builtin.append_ #[T_sl_uint8, T_sl_uint8] T_sl_uint8 #[.slice a 4 c, .slice (some ⟨kb, 0, none⟩) 1 1]) (fun v h' => ∃ (b : Option Addr) (bn bc : Nat), v = .slice b bn bc ∧ frame_Encode_J111 ⟨f1, 0, none⟩ b bn bc Q h') h0 := by
      intro h0 a c kb H0
      rw [wk] at H0
      refine H0.app_sl E_sl_uint8 (m := 1) (ys := [.int .u8 f.kind]) (H0.m1.ptrd rfl) rfl (by simp) (by simp [oneC]) (fun h2 a2 c2 H2 => ⟨_, _, _, rfl, ?_⟩) (by omega) (by omega)
      have e5 : nV (le4 f.body.size) ++ [.int .u8 f.kind] = nV (le4 f.body.size ++ [f.kind.toNat]) := by rw [nV_app]; congr 1; show _ = [Value.int .u8 (f.kind.toNat : Int)]; rw [← ek2]
      rw [e5] at H2
      exact frame_end t hk hs ((H2.m1).tl) fun h' a c H' => k2 rfl h' a c H'
    have NK : ∀ {h0 : Heap} {M : List Assn}, Hs h0 M → Hs (h0.push (.cells #[.int .u8 (IntKind.u8.wrap f.kind)] T_uint8 (0, 0))) (pt h0.size T_uint8 [.int .u8 (IntKind.u8.wrap f.kind)] :: M) := fun H0 => H0.new
    have N1 := NK H1
    refine ⟨⟨_, c1, ?_, ⟨_, c0, ?_, ?_, trivial⟩, trivial⟩, ⟨_, c0, ⟨_, c1, ?_, ?_, trivial⟩, ⟨_, N1.m1.cell (off := 1) rfl, ?_⟩, trivial⟩, trivial⟩
    · exact P H1 fun h' a' c' H' => ⟨_, _, _, rfl, _, H'.m1.cell (off := 0) rfl, A (NK H').m1⟩
    · exact P H1 fun h' a' c' H' => ⟨_, _, _, rfl, A (NK H').m1⟩
    · exact P N1 fun h' a' c' H' => ⟨_, _, _, rfl, A H'⟩
    · exact P H1 fun h' a' c' H' => ⟨_, _, _, rfl, A (NK H').m1⟩
    · exact P N1 fun h' a' c' H' => ⟨_, _, _, rfl, A H'⟩
    · exact P N1 fun h' a' c' H' => ⟨_, _, _, rfl, A H'⟩
  refine ⟨_, c0, (br_iff _ _ _).2 ⟨fun e => fin _ ?_, fun e => ⟨_, c0, fin _ ?_⟩⟩⟩
  all_goals (simp only [decide_eq_true_eq, decide_eq_false_iff_not] at *; symm; simp only [decide_eq_decide, decide_eq_true_eq]; omega)
theorem rEncode_spec {f : Fm} (H : Hs h L) (k1 : encE f ≠ 0 → ∀ h', Hs h' L → Q (.tuple #[.slice none 0 0, .int .i64 (encE f)]) h')
    (k2 : encE f = 0 → ∀ h' a c, Hs h' (own a (f.body.size + 9) c T_uint8 1 (nV (encB f)) :: L) → Q (.tuple #[.slice a (f.body.size + 9) c, .int .i64 0]) h') : SpecH PP F_ref18_Encode [.agg #[.int .i64 f.kind, .string f.body]] h Q := by
  refine ref18_Encode_door ?_
  unfold ref18_Encode_main
  have H1 := H.new (t := T_api_Frame) (cs := #[.int .i64 f.kind, .string f.body]) (xs := frV f)
  generalize h.size = f1 at H1 ⊢
  generalize h.push (.cells #[.int .i64 f.kind, .string f.body] T_api_Frame (0, 0)) = h1 at H1 ⊢
  have c0 : cellH h1 ⟨f1, 0, none⟩ = some (.int .i64 f.kind) := H1.cell (off := 0) rfl
  have c1 : cellH h1 ⟨f1, 1, none⟩ = some (.string f.body) := H1.cell (off := 1) rfl
  have fin : ∀ b : Bool, b = decide (f.kind < 1 ∨ f.kind > 255) → ref18_Encode_J101 ⟨f1, 0, none⟩ b Q h1 := by
    rintro b rfl
    unfold encE at k1 k2
    refine ref18_Encode_J101_of ((br_iff _ _ _).2 ⟨fun e => ?_, fun e => ?_⟩)
    · rw [if_pos (of_decide_eq_true e)] at k1; exact k1 (by decide) h1 H1.tl
    have ek := of_decide_eq_false e
    rw [if_neg ek] at k1 k2
    have hk : 1 ≤ f.kind ∧ f.kind ≤ 255 := by omega
    refine ⟨_, c1, (br_iff _ _ _).2 ⟨fun e2 => ?_, fun e2 => ?_⟩⟩
    · have e3 := of_decide_eq_true e2
      rw [if_pos (by omega)] at k1; exact k1 (by decide) h1 H1.tl
    have e3 := of_decide_eq_false e2
    rw [if_neg (by omega)] at k2
    have hs : f.body.size ≤ 20000 := by omega
    have wk : IntKind.u8.wrap f.kind = f.kind := wrap_u8_z (by omega) (by omega)
    have ws : IntKind.u64.wrap (f.body.size : Int) = (f.body.size : Int) := wrap_u64_id (by omega)
    have ek2 : f.kind = (f.kind.toNat : Int) := by omega
    refine ⟨_, c0, ?_⟩
    have H2 : Hs (h1.push (.cells #[.int .u8 (IntKind.u8.wrap f.kind)] T_uint8 (0, 0))) (pt h1.size T_uint8 [.int .u8 (IntKind.u8.wrap f.kind)] :: _) := H1.new
    have H3 := H2.pt_all (n := 1) rfl
    refine ⟨_, H3.m1.cell (off := 1) rfl, ?_⟩
    refine H3.app_str E_sl_uint8 U_string (fun h4 a4 c4 H4 => ⟨_, _, _, rfl, _, H4.m1.cell (off := 1) rfl, ?_⟩) (by omega) (by omega)
    have ev : [Value.int .u8 (IntKind.u8.wrap f.kind)] ++ f.body.data.toList.map (fun b => Value.int .u8 b.toNat) = nV (mid f) := by
      have e1 : f.body.data.toList.map (fun b => Value.int .u8 b.toNat) = nV (sb f.body) := by simp [nV, sb]
      rw [e1, wk, ek2]; rfl
    rw [ev] at H4
    show SpecH PP F_ref02_Put [.slice none 0 0, .int .u64 (IntKind.u64.wrap (f.body.size : Int)), .int .i64 4] h4 _
    rw [ws]
    refine rPut_hs (xs := []) (by omega) (fun x hx => by cases hx) (Rd.nil _ _) rfl (by omega) H4 fun h5 a5 H5 => ⟨_, _, _, rfl, ?_⟩
    have ml : (nV (mid f)).length = (1 + f.body.size) * 1 := by rw [nV_len, mid_len]; omega
    refine H5.app_sl E_sl_uint8 H5.m1.rd ml (fun e => by subst e; have := H5.m1.own_none; have := H5.m1.own_le; omega) (nV_one _) (fun h6 a6 c6 H6 => ⟨_, _, _, rfl, ?_⟩) (by omega) (by omega)
    refine rSum_hs (mid_lt hk) H6.m1.rd (by rw [mid_len]; omega) (by omega) ⟨_, rfl, ?_⟩
    have wc : IntKind.u64.wrap (crc (mid f) : Int) = (crc (mid f) : Int) := wrap_u64_id (by have := crc_lt (mid f); omega)
    rw [wc]
    have e6 : nV ([] ++ le4 f.body.size) ++ nV (mid f) = nV (le4 f.body.size ++ mid f) := by rw [List.nil_append, nV_app]
    rw [e6] at H6
    have hlt : ∀ x ∈ le4 f.body.size ++ mid f, x < 256 := fun x hx => (List.mem_append.1 hx).elim le4_lt (mid_lt hk x)
    refine rPut_hs (by have := crc_lt (mid f); omega) hlt H6.rd (by rw [List.length_append, le4_len, mid_len]; omega) (by omega) H6 fun h7 a7 H7 => ⟨_, _, _, rfl, ?_⟩
    have e9 : 0 + 4 + (1 + f.body.size) + 4 = f.body.size + 9 := by omega
    rw [e9] at H7 ⊢
    exact k2 rfl h7 (some a7) (f.body.size + 9) ((((H7.m1).tl.m1).tl.m1).tl)
  refine ⟨_, c0, (br_iff _ _ _).2 ⟨fun e => fin _ ?_, fun e => ⟨_, c0, fin _ ?_⟩⟩⟩
  all_goals (simp only [decide_eq_true_eq, decide_eq_false_iff_not] at *; symm; simp only [decide_eq_decide, decide_eq_true_eq]; omega)
end Go.Proofs.YtdjjchfhccmjgaaDoor

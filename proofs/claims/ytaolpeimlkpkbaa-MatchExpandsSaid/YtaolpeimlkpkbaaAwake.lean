/- The law's examples. -/
import Derived.Test.YtaolpeimlkpkbaaLent
set_option maxRecDepth 20000
set_option linter.unusedVariables false
set_option linter.unusedSimpArgs false
namespace Go.Proofs.Ytaolpeimlkpkbaa
open Go Go.HW
variable {h : Heap} {L : List Assn} {Q : Value → Heap → Prop}
theorem find1 : find [97, 98, 99, 97, 98, 99, 97, 98, 99] = [⟨97, 0, 0⟩, ⟨98, 0, 0⟩, ⟨99, 0, 0⟩, ⟨0, 6, 3⟩] := by decide +kernel
theorem find2 : find [97, 98, 99, 121, 98, 99, 100, 101, 122, 97, 98, 99, 100, 101] = [⟨97, 0, 0⟩, ⟨98, 0, 0⟩, ⟨99, 0, 0⟩, ⟨121, 0, 0⟩, ⟨98, 0, 0⟩, ⟨99, 0, 0⟩, ⟨100, 0, 0⟩, ⟨101, 0, 0⟩, ⟨122, 0, 0⟩, ⟨97, 0, 0⟩, ⟨0, 4, 6⟩] := by decide +kernel
theorem ex1 : exAll [⟨97, 0, 0⟩, ⟨0, 3, 1⟩] 4 = (0, [97, 97, 97, 97]) := by decide +kernel
theorem ex2 : exAll [⟨0, 3, 1⟩] 4 = (60, []) := by decide +kernel
theorem co1 : costAll [⟨97, 0, 0⟩, ⟨0, 3, 1⟩] = (20, 0) := by decide +kernel
theorem ck1 : ckGo [⟨0, 2, 0⟩] 0 = 60 := by decide +kernel
theorem awake_hs (H : Hs h L) (k : ∀ h', Hs h' L → Q (.bool true) h') : SpecH PP F_law06_awake [] h Q := by
  refine law06_awake.door ?_
  dsimp only
  have H1 := H.new (t := T_uint8) (cs := #[.int .u8 97, .int .u8 98, .int .u8 99, .int .u8 97, .int .u8 98, .int .u8 99, .int .u8 97, .int .u8 98, .int .u8 99]) (xs := nV [97, 98, 99, 97, 98, 99, 97, 98, 99])
  refine H1.conv U_sl_uint8 U_uint8 fun h2 H2 => ⟨_, _, _, rfl, ?_⟩
  refine Find_hs (D := [97, 98, 99, 97, 98, 99, 97, 98, 99]) (by decide) Gv.rdO rfl (by omega) (by simp) H2 fun h3 a3 c3 H3 => ⟨_, _, _, rfl, ?_⟩
  have H4 := H3.new (t := T_uint8) (cs := #[.int .u8 97, .int .u8 98, .int .u8 99, .int .u8 121, .int .u8 98, .int .u8 99, .int .u8 100, .int .u8 101, .int .u8 122, .int .u8 97, .int .u8 98, .int .u8 99, .int .u8 100, .int .u8 101]) (xs := nV [97, 98, 99, 121, 98, 99, 100, 101, 122, 97, 98, 99, 100, 101])
  refine H4.conv U_sl_uint8 U_uint8 fun h5 H5 => ⟨_, _, _, rfl, ?_⟩
  refine Find_hs (D := [97, 98, 99, 121, 98, 99, 100, 101, 122, 97, 98, 99, 100, 101]) (by decide) Gv.rdO rfl (by omega) (by simp) H5 fun h6 a6 c6 H6 => ⟨_, _, _, rfl, ?_⟩
  rw [find1] at H6 ⊢
  rw [find2] at H6 ⊢
  have H6 := (H6.m1.tl).m1
  have tt : ∀ {h : Heap} {b : Nat} {L : List Assn}, Hs h (pt b T_api_Token [.int .u8 97, .int .i64 0, .int .i64 0, .int .u8 0, .int .i64 3, .int .i64 1] :: L) → Hs h (pt b T_api_Token ([(⟨97, 0, 0⟩ : Tok), ⟨0, 3, 1⟩].flatMap tokV) :: L) := fun H => H
  have H7 := tt (H6.new (t := T_api_Token) (cs := #[.int .u8 97, .int .i64 0, .int .i64 0, .int .u8 0, .int .i64 3, .int .i64 1]))
  refine Expand_hs (l := [⟨97, 0, 0⟩, ⟨0, 3, 1⟩]) Gv.pt rfl (by omega) H7 fun h8 a8 c8 H8 => ⟨_, _, _, _, rfl, ?_⟩
  rw [ex1] at H8 ⊢
  have H8 := H8.m1.tl
  have H9 := H8.new (t := T_api_Token) (cs := #[.int .u8 0, .int .i64 3, .int .i64 1]) (xs := [(⟨0, 3, 1⟩ : Tok)].flatMap tokV)
  refine Expand_hs (l := [⟨0, 3, 1⟩]) Gv.pt rfl (by omega) H9 fun h10 a10 c10 H10 => ⟨_, _, _, _, rfl, ?_⟩
  rw [ex2] at H10 ⊢
  have H10 := H10.tl.tl
  have H11 := tt (H10.new (t := T_api_Token) (cs := #[.int .u8 97, .int .i64 0, .int .i64 0, .int .u8 0, .int .i64 3, .int .i64 1]))
  refine Cost_hs (l := [⟨97, 0, 0⟩, ⟨0, 3, 1⟩]) Gv.pt rfl (by omega) H11 fun h12 H12 => ⟨_, _, rfl, ?_⟩
  rw [co1]
  have H12 := H12.tl
  refine br_true rfl ?_
  refine idxf E_sl_api_Token (φ := tokV) (i := 3) (x := (⟨0, 6, 3⟩ : Tok)) (H12.m1.rd) tokV_len (by omega) (by decide) (by decide) rfl fun t ht => ⟨_, _, _, ht, br_true rfl (br_true rfl ?_)⟩
  refine idxf E_sl_api_Token (φ := tokV) (i := 9) (x := (⟨97, 0, 0⟩ : Tok)) (H12.m2.rd) tokV_len (by omega) (by decide) (by decide) rfl fun t ht => ⟨_, _, _, ht, br_true rfl ?_⟩
  refine idxf E_sl_api_Token (φ := tokV) (i := 10) (x := (⟨0, 4, 6⟩ : Tok)) (H12.m2.rd) tokV_len (by omega) (by decide) (by decide) rfl fun t ht => ⟨_, _, _, ht, br_true rfl (br_true rfl ?_)⟩
  refine hwp_b2s (bs := [97, 97, 97, 97]) U_string U_sl_uint8 U_uint8 H12.rd rfl (fun e => by subst e; have := H12.own_none; have := H12.own_le; simp at this; omega) ⟨_, rfl, ?_⟩
  refine br_true (decide_eq_true rfl) (br_true rfl (br_true rfl (br_true rfl ?_)))
  have H17 := H12.new (t := T_api_Token) (cs := #[.int .u8 0, .int .i64 2, .int .i64 0]) (xs := [(⟨0, 2, 0⟩ : Tok)].flatMap tokV)
  refine Check_hs (l := [⟨0, 2, 0⟩]) Gv.pt rfl (by omega) H17 fun h18 H18 => ⟨_, rfl, ?_⟩
  rw [ck1]
  exact k h18 (H18.tl.tl.tl.tl.tl)
end Go.Proofs.Ytaolpeimlkpkbaa

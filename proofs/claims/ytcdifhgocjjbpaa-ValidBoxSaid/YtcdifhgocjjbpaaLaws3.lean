/- The law Nil. -/
import Derived.Test.YtcdifhgocjjbpaaLaws2
set_option maxRecDepth 20000
set_option linter.unusedVariables false
set_option linter.unusedSimpArgs false
namespace Go.Proofs.Ytcdifhgocjjbpaa
open Go Go.HW
variable {h : Heap} {L : List Assn} {Q : Value → Heap → Prop}
theorem ReadN_hs {k : Key} (H : Hs h L) (kk : ∀ h', Hs h' L → Q (.tuple #[]) h') : SpecH PP F_valid_Set_Read [.pointer none, keyA k] h Q :=
  valid_Set_Read.door (br_false rfl (kk _ (H.ext (.push _ _))))
theorem ListN_hs {b : Bx} (H : Hs h L) (kk : ∀ h', Hs h' L → Q (.tuple #[]) h') : SpecH PP F_valid_Set_List [.pointer none, bxA b] h Q :=
  valid_Set_List.door (br_false rfl (kk _ (H.ext (.push _ _))))
theorem PutN_hs {k : Key} {d : ByteArray} (H : Hs h L) (kk : ∀ h', Hs h' L → Q (.tuple #[]) h') : SpecH PP F_valid_Set_Put [.pointer none, keyA k, .string d] h Q :=
  valid_Set_Put.door (br_false rfl (kk _ (H.ext (.push _ _))))
theorem DeleteN_hs {k : Key} (H : Hs h L) (kk : ∀ h', Hs h' L → Q (.tuple #[]) h') : SpecH PP F_valid_Set_Delete [.pointer none, keyA k] h Q :=
  valid_Set_Delete.door (br_false rfl (kk _ (H.ext (.push _ _))))
theorem OwnN_hs {k : Key} (H : Hs h L) (kk : ∀ h', Hs h' L → Q (.tuple #[wrA noW, .bool false]) h') : SpecH PP F_valid_Set_Own [.pointer none, keyA k] h Q := by
  refine valid_Set_Own.door ?_
  dsimp only
  have H1 := (H.ext (Ext.push h (.cells (keyV k).toArray T_api_Key (0, 0)))).new (t := T_api_Write) (cs := (wrV noW).toArray) (xs := wrV noW)
  exact br_true rfl (Hs.wrs (xs := wrV noW) H1 (fun h3 H3 => ⟨_, _, _, _, _, H3.rdc0, kk h3 H3.tl⟩))
theorem ClashN_hs {x : Cm} (H : Hs h L) (kk : ∀ h', Hs h' L → Q (.bool false) h') : SpecH PP F_valid_Set_Clash [.pointer none, .agg (cmV x).toArray] h Q := by
  refine valid_Set_Clash.door ?_
  dsimp only
  have H1 := (H.new (t := T_p_valid_Set) (cs := #[.pointer none]) (xs := [.pointer none])).new (t := T_api_Commit) (cs := (cmV x).toArray) (xs := cmV x)
  exact ⟨_, H1.m1.cell (off := 0) rfl, br_false rfl (kk _ H1.tl.tl)⟩
theorem ValidNil_spec {k : Key} {x : Cm} (HQ : ∀ h', ExtB h.size h h' → Q (.bool true) h') : SpecH PP F_law13_ValidNil [keyA k, .agg (cmV x).toArray] h Q := by
  refine law13_ValidNil.door ?_
  dsimp only
  have H := ((Hs.start h).new (t := T_api_Key) (cs := (keyV k).toArray) (xs := keyV k)).new (t := T_api_Commit) (cs := (cmV x).toArray) (xs := cmV x)
  refine ⟨_, _, _, H.m1.rdc0, ReadN_hs (k := k) H fun h1 H => ⟨rfl, _, H.m1.cell (off := 0) rfl, ListN_hs (b := ⟨_, _⟩) H fun h2 H => ⟨rfl, _, _, _, H.m1.rdc0, PutN_hs (k := k) H fun h3 H => ⟨rfl, _, _, _, H.m1.rdc0, DeleteN_hs (k := k) H fun h4 H => ⟨rfl, _, _, _, H.m1.rdc0, OwnN_hs (k := k) H fun h5 H => ⟨_, _, _, _, _, _, rfl, ?_⟩⟩⟩⟩⟩⟩
  refine Hs.wrs (xs := wrV noW) H.new fun h6 H => ?_
  refine ⟨_, _, _, _, H.m1.rdc0, ?_⟩
  have H := H.new (t := T_api_Commit) (cs := (cmV x).toArray) (xs := cmV x)
  refine valid_Set_Check.door (br_true rfl ⟨_, _, rfl, awake_hs H fun h7 H => ⟨_, rfl, br_true rfl ?_⟩⟩)
  refine ⟨_, _, _, _, _, H.m1.rdc0, br_true (by decide +kernel) (br_true rfl ?_)⟩
  refine valid_Set_Writes.door (br_true rfl ⟨_, _, _, rfl, br_true rfl ?_⟩)
  refine valid_Set_At.door (br_true rfl ⟨_, rfl, br_true rfl ?_⟩)
  refine ⟨_, _, _, _, H.m2.rdc0, ClashN_hs (x := x) H fun h8 H => ⟨_, rfl, br_true rfl (br_true rfl (HQ _ H.tl.tl.tl.tl.ro_below))⟩⟩
end Go.Proofs.Ytcdifhgocjjbpaa

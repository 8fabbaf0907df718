/- The law Box. -/
import Derived.Test.YtcdifhgocjjbpaaLaws
set_option maxRecDepth 20000
set_option linter.unusedVariables false
set_option linter.unusedSimpArgs false
namespace Go.Proofs.Ytcdifhgocjjbpaa
open Go Go.HW
variable {h : Heap} {L : List Assn} {Q : Value → Heap → Prop}
def zw (k : Key) : Wr := ⟨k, false, ⟨#[]⟩⟩
theorem meet_list (a : Int) (b : Bx) (k : Key) : ((VS.new a).list b).meets k = decide (b = ⟨k.t, k.a⟩) := by
  unfold VS.meets
  show ((mget ([] : List (Key × Bool)) k).isSome || (mget (mset ([] : List (Bx × Bool)) b true) ⟨k.t, k.a⟩).isSome) = _
  rw [isSome_mset, mget_nil, mget_nil]; simp
theorem meet_read (a : Int) (b : Key) (k : Key) : ((VS.new a).read b).meets k = decide (b = k) := by
  unfold VS.meets
  show ((mget (mset ([] : List (Key × Bool)) b true) k).isSome || (mget ([] : List (Bx × Bool)) ⟨k.t, k.a⟩).isSome) = _
  rw [isSome_mset, mget_nil, mget_nil]; simp
theorem ValidBox_spec {at_ : Int} {k o : Key} (lo : -9223372036854775808 ≤ at_) (HQ : ∀ h', ExtB h.size h h' → Q (.bool true) h') : SpecH PP F_law13_ValidBox [.int .i64 at_, keyA k, keyA o] h Q := by
  refine law13_ValidBox.door ?_
  dsimp only
  have fin : ∀ {h' : Heap} {M : List Assn}, Hs h' (ro h :: M) → Q (.bool true) h' := fun H => HQ _ H.ro_below
  have H := ((Hs.start h).new (t := T_api_Key) (cs := (keyV k).toArray) (xs := keyV k)).new (t := T_api_Key) (cs := (keyV o).toArray) (xs := keyV o)
  refine (br_iff _ _ _).2 ⟨fun e => fin H.tl.tl, fun e => ?_⟩
  have e := of_decide_eq_false e
  refine New_hs H fun h1 s1 H1 => ⟨_, rfl, New_hs H1 fun h2 s2 H2 => ⟨_, rfl, br_false rfl ?_⟩⟩
  refine law13_ValidBox.J1_of (br_false rfl ⟨_, H2.m3.cell (off := 0) rfl, _, H2.m3.cell (off := 1) rfl, ?_⟩)
  refine List_hs (b := ⟨k.t, k.a⟩) H2.m1 fun h3 H3 => ⟨rfl, _, _, _, H3.m3.rdc0, ?_⟩
  refine Read_hs (k := k) H3.m1 fun h4 H4 => ⟨rfl, ?_⟩
  refine ⟨_, _, _, H4.m2.rdc0, _, _, _, H4.m3.rdc0, ?_⟩
  dsimp only
  rw [wrap_i64_z (z := at_ + 1) (by omega) (by omega)]
  have H5 := H4.new (t := T_api_Write) (cs := ([zw o, zw k].flatMap wrV).toArray) (xs := [zw o, zw k].flatMap wrV)
  have meq : ∀ (w : Wr), w.there = false → w.data = ⟨#[]⟩ → wrV w = wrV (zw w.k) := fun w e1 e2 => by cases w; simp only at e1 e2; subst e1 e2; rfl
  refine Hs.wrs (xs := [.int .i64 0, .slice none 0 0]) H5.new (fun h6 H6 => ?_)
  refine ⟨_, _, _, H6.m4.rdc0, ?_⟩
  have H7 := H6.new (t := T_api_Write) (cs := ([zw o].flatMap wrV).toArray) (xs := [zw o].flatMap wrV)
  refine Hs.wrs (xs := [.int .i64 0, .slice none 0 0]) H7.new (fun h8 H8 => ?_)
  have main : ∀ {c9 d10 w1 w2 ob kb : Nat} {h8 : Heap} (al : Bool), al = decide ((⟨k.t, k.a⟩ : Bx) = ⟨o.t, o.a⟩) → Hs h8 (pt d10 T_api_Commit [.int .i64 (at_ + 1), .slice (some ⟨w2, 0, none⟩) 1 1] :: pt w2 T_api_Write ([zw o].flatMap wrV) :: pt c9 T_api_Commit [.int .i64 (at_ + 1), .slice (some ⟨w1, 0, none⟩) 2 2] :: pt w1 T_api_Write ([zw o, zw k].flatMap wrV) :: setA s2 ((VS.new at_).read k) :: setA s1 ((VS.new at_).list ⟨k.t, k.a⟩) :: pt ob T_api_Key (keyV o) :: pt kb T_api_Key (keyV k) :: [ro h]) → law13_ValidBox.J2 ⟨kb, 0, none⟩ ⟨ob, 0, none⟩ (some ⟨s1, 0, none⟩) (some ⟨s2, 0, none⟩) ⟨c9, 0, none⟩ ⟨d10, 0, none⟩ al Q h8 := by
    intro c9 d10 w1 w2 ob kb h8 al hal H8
    refine law13_ValidBox.J2_of (awake_hs H8 fun h9 H9 => ⟨_, rfl, br_true rfl ⟨_, _, _, _, H9.m2.rdc0, ?_⟩⟩)
    have hgt : decide (at_ + 1 > at_) = true := decide_eq_true (by omega)
    refine Clash_hs (v := (VS.new at_).list ⟨k.t, k.a⟩) (x := ⟨at_ + 1, some ⟨w1, 0, none⟩, 2, 2, [zw o, zw k]⟩) (list_vi (new_vi _) _) ⟨Gv.pt.cons.cons.cons, rfl, (by decide : (2 : Nat) < 2 ^ 60)⟩ H9.m5 fun h10 H10 => ⟨_, rfl, ?_⟩
    have e1 : ((VS.new at_).list ⟨k.t, k.a⟩).clash ⟨at_ + 1, some ⟨w1, 0, none⟩, 2, 2, [zw o, zw k]⟩ = true := by
      unfold VS.clash; show (decide (at_ + 1 > at_) && _) = true
      rw [hgt, Bool.true_and, List.any_eq_true]; exact ⟨zw k, by simp, by rw [meet_list]; exact decide_eq_true rfl⟩
    refine br_true e1 ⟨_, _, _, _, H10.m3.rdc0, ?_⟩
    refine Clash_hs (v := (VS.new at_).read k) (x := ⟨at_ + 1, some ⟨w1, 0, none⟩, 2, 2, [zw o, zw k]⟩) (read_vi (new_vi _) _) ⟨Gv.pt.cons.cons.cons.cons, rfl, (by decide : (2 : Nat) < 2 ^ 60)⟩ H10.m5 fun h11 H11 => ⟨_, rfl, ?_⟩
    have e2 : ((VS.new at_).read k).clash ⟨at_ + 1, some ⟨w1, 0, none⟩, 2, 2, [zw o, zw k]⟩ = true := by
      unfold VS.clash; show (decide (at_ + 1 > at_) && _) = true
      rw [hgt, Bool.true_and, List.any_eq_true]; exact ⟨zw k, by simp, by rw [meet_read]; exact decide_eq_true rfl⟩
    refine br_true e2 ⟨_, _, _, _, H11.m2.rdc0, ?_⟩
    refine Clash_hs (v := (VS.new at_).list ⟨k.t, k.a⟩) (x := ⟨at_ + 1, some ⟨w2, 0, none⟩, 1, 1, [zw o]⟩) (list_vi (new_vi _) _) ⟨Gv.pt.cons.cons, rfl, (by decide : (1 : Nat) < 2 ^ 60)⟩ H11.m1 fun h12 H12 => ⟨_, rfl, ?_⟩
    have e3 : ((VS.new at_).list ⟨k.t, k.a⟩).clash ⟨at_ + 1, some ⟨w2, 0, none⟩, 1, 1, [zw o]⟩ = al := by
      unfold VS.clash; show (decide (at_ + 1 > at_) && _) = al
      rw [hgt, Bool.true_and, hal]; simp only [List.any_cons, List.any_nil, Bool.or_false]; rw [meet_list]; rfl
    refine br_true (by rw [e3]; exact beq_self_eq_true _) ⟨_, _, _, _, H12.m2.rdc0, ?_⟩
    have cl : ∀ {Q' : Value → Heap → Prop}, (∀ h', Hs h' (setA s2 ((VS.new at_).read k) :: setA s1 ((VS.new at_).list ⟨k.t, k.a⟩) :: pt d10 T_api_Commit [.int .i64 (at_ + 1), .slice (some ⟨w2, 0, none⟩) 1 1] :: pt w2 T_api_Write ([zw o].flatMap wrV) :: pt c9 T_api_Commit [.int .i64 (at_ + 1), .slice (some ⟨w1, 0, none⟩) 2 2] :: pt w1 T_api_Write ([zw o, zw k].flatMap wrV) :: pt ob T_api_Key (keyV o) :: pt kb T_api_Key (keyV k) :: [ro h]) → Q' (.bool (decide (k = o))) h') →
        SpecH PP F_valid_Set_Clash [.pointer (some ⟨s2, 0, none⟩), .agg #[.int .i64 (at_ + 1), .slice (some ⟨w2, 0, none⟩) 1 1]] h12 Q' := by
      intro Q' kk
      refine Clash_hs (v := (VS.new at_).read k) (x := ⟨at_ + 1, some ⟨w2, 0, none⟩, 1, 1, [zw o]⟩) (read_vi (new_vi _) _) ⟨Gv.pt.cons.cons, rfl, (by decide : (1 : Nat) < 2 ^ 60)⟩ H12.m1 fun h13 H13 => ?_
      have e4 : ((VS.new at_).read k).clash ⟨at_ + 1, some ⟨w2, 0, none⟩, 1, 1, [zw o]⟩ = decide (k = o) := by
        unfold VS.clash; show (decide (at_ + 1 > at_) && _) = _
        rw [hgt, Bool.true_and]; simp only [List.any_cons, List.any_nil, Bool.or_false]; rw [meet_read]; rfl
      rw [e4]; exact kk h13 H13
    have e5 : (decide (k = o) == (decide (o.t = k.t) && (decide (o.a = k.a) && (decide (o.e = k.e) && true)))) = true := by
      cases k; cases o; simp only [Key.mk.injEq, Bool.and_true, beq_iff_eq, ← Bool.decide_and]
      exact decide_eq_decide.2 ⟨fun ⟨a, b, c⟩ => ⟨a.symm, b.symm, c.symm⟩, fun ⟨a, b, c⟩ => ⟨a.symm, b.symm, c.symm⟩⟩
    have endq : ∀ {h' : Heap}, Hs h' (setA s2 ((VS.new at_).read k) :: setA s1 ((VS.new at_).list ⟨k.t, k.a⟩) :: pt d10 T_api_Commit [.int .i64 (at_ + 1), .slice (some ⟨w2, 0, none⟩) 1 1] :: pt w2 T_api_Write ([zw o].flatMap wrV) :: pt c9 T_api_Commit [.int .i64 (at_ + 1), .slice (some ⟨w1, 0, none⟩) 2 2] :: pt w1 T_api_Write ([zw o, zw k].flatMap wrV) :: pt ob T_api_Key (keyV o) :: pt kb T_api_Key (keyV k) :: [ro h]) →
        Q (.bool (decide (k = o) == (decide (o.t = k.t) && (decide (o.a = k.a) && (decide (o.e = k.e) && true))))) h' := by
      intro h' H; rw [e5]; exact fin H.tl.tl.tl.tl.tl.tl.tl.tl
    refine ⟨cl fun h' H' => ⟨_, rfl, _, _, _, H'.m6.rdc0, _, _, _, H'.m7.rdc0, endq H'⟩, ⟨_, _, _, H12.m6.rdc0, cl fun h' H' => ⟨_, rfl, _, _, _, H'.m7.rdc0, endq H'⟩, ⟨_, _, _, H12.m7.rdc0, cl fun h' H' => ⟨_, rfl, endq H'⟩⟩, trivial⟩,
      ⟨_, _, _, H12.m7.rdc0, cl fun h' H' => ⟨_, rfl, _, _, _, H'.m6.rdc0, endq H'⟩, ⟨_, _, _, H12.m6.rdc0, cl fun h' H' => ⟨_, rfl, endq H'⟩⟩, trivial⟩, trivial⟩
  refine ⟨_, H8.m6.cell (off := 0) rfl, _, H8.m7.cell (off := 0) rfl, (br_iff _ _ _).2 ⟨fun e1 => ⟨_, H8.m6.cell (off := 1) rfl, _, H8.m7.cell (off := 1) rfl, main _ ?_ H8⟩, fun e1 => main _ ?_ H8⟩⟩
  · have e1 := of_decide_eq_true e1
    exact decide_eq_decide.2 ⟨fun e => by rw [e1, e], fun e => (Bx.mk.inj e).2.symm⟩
  · have e1 := of_decide_eq_false e1
    exact (decide_eq_false fun e => e1 (Bx.mk.inj e).1.symm).symm
end Go.Proofs.Ytcdifhgocjjbpaa

/- The writes of a map, in order: maps.Values, slices.SortedFunc. -/
import Derived.Test.YtcdifhgocjjbpaaSrt5
import Derived.Test.YtcdifhgocjjbpaaOrd
set_option maxRecDepth 20000
set_option linter.unusedVariables false
set_option linter.unusedSimpArgs false
namespace Go.Proofs.Ytcdifhgocjjbpaa
open Go Go.HW
variable {h : Heap} {L : List Assn} {Q : Value → Heap → Prop}
def cmpI (x y : ByteArray) : Int := if strLt x y = true then -1 else if x = y then 0 else 1
theorem isNaN_pure (x : ByteArray) : PureAt PP F_cmp_isNaN_string [.string x] (.bool false) := by
  intro h
  refine cmp_isNaN_string.door ?_
  simp
theorem Compare_pure (x y : ByteArray) : PureAt PP F_cmp_Compare_string [.string x, .string y] (.int .i64 (cmpI x y)) := by
  intro h
  refine cmp_Compare_string.door ⟨_, isNaN_pure x, _, rfl, _, isNaN_pure y, _, rfl, br_false rfl (br_false rfl ?_)⟩
  unfold cmpI
  refine (br_iff _ _ _).2 ⟨fun e => ?_, fun e => (br_iff _ _ _).2 ⟨fun e2 => ?_, fun e2 => ?_⟩⟩
  · rw [if_pos e]; simp
  · rw [e] at e2
    have e3 : ¬ x = y := by simpa using e2
    rw [if_neg (by rw [e]; simp), if_neg e3]; simp
  · rw [e] at e2
    have e3 : x = y := by simpa using e2
    rw [if_neg (by rw [e]; simp), if_pos e3]; simp
theorem or_hs {a b c : Int} {bk : Nat} (H : Hs h (pt bk T_int [.int .i64 a, .int .i64 b, .int .i64 c] :: L)) (k : ∀ h', Hs h' L → Q (.int .i64 (if a ≠ 0 then a else if b ≠ 0 then b else c)) h') : SpecH PP F_cmp_Or_int [.slice (some ⟨bk, 0, none⟩) 3 3] h Q := by
  refine cmp_Or_int.door ?_
  have r : Rd h (some ⟨bk, 0, none⟩) [.int .i64 a, .int .i64 b, .int .i64 c] := H.ptrd rfl
  refine cmp_Or_int.L1_of (br_true rfl ?_)
  refine idx (i := 0) E_sl_int r (by decide) (by decide) rfl fun t ht => ⟨_, ht, (br_iff _ _ _).2 ⟨fun e => cmp_Or_int.L1_Xret ?_, fun e => ?_⟩⟩
  · have e : a ≠ 0 := bne_iff_ne.1 e
    rw [if_pos e] at k; exact k h H.tl
  have e : a = 0 := bne_eq_false_iff_eq.1 e
  rw [if_neg (by simpa using e)] at k
  dsimp only
  refine cmp_Or_int.L1_of (br_true rfl ?_)
  refine idx (i := 1) E_sl_int r (by decide) (by decide) rfl fun t ht => ⟨_, ht, (br_iff _ _ _).2 ⟨fun e => cmp_Or_int.L1_Xret ?_, fun e => ?_⟩⟩
  · have e : b ≠ 0 := bne_iff_ne.1 e
    rw [if_pos e] at k; exact k h H.tl
  have e : b = 0 := bne_eq_false_iff_eq.1 e
  rw [if_neg (by simpa using e)] at k
  dsimp only
  refine cmp_Or_int.L1_of (br_true rfl ?_)
  refine idx (i := 2) E_sl_int r (by decide) (by decide) rfl fun t ht => ⟨_, ht, (br_iff _ _ _).2 ⟨fun e => cmp_Or_int.L1_Xret (k h H.tl), fun e => ?_⟩⟩
  have e : c = 0 := bne_eq_false_iff_eq.1 e
  dsimp only
  refine cmp_Or_int.L1_of (br_false rfl (cmp_Or_int.L1_X0 ?_))
  rw [e] at k
  exact k h H.tl
theorem cmpI_lt {x y : ByteArray} : decide (cmpI x y < 0) = strLt x y := by
  unfold cmpI
  cases e : strLt x y with
  | true => simp
  | false => rw [if_neg (by simp)]; split <;> simp
theorem cmpI_ne {x y : ByteArray} : cmpI x y ≠ 0 ↔ x ≠ y := by
  unfold cmpI
  by_cases e : x = y
  · subst e; rw [sl_irrefl]; simp
  · cases e2 : strLt x y <;> simp [e]
theorem cmp3 (x y : Key) : decide ((if cmpI x.t y.t ≠ 0 then cmpI x.t y.t else if cmpI x.a y.a ≠ 0 then cmpI x.a y.a else cmpI x.e y.e) < 0) = klt x y := by
  unfold klt
  simp only [cmpI_ne]
  split
  · exact cmpI_lt
  · split
    · exact cmpI_lt
    · exact cmpI_lt
theorem cmp_ok : Srtapi_Write.CmpOk (.func (.func F_valid_Set_Writes_1) #[] #[]) wlt := by
  intro x y M h R H k
  refine callV_fn (by kernel_rfl) ?_
  show SpecH PP F_valid_Set_Writes_1 [_, _] h R
  refine valid_Set_Writes_1.door ?_
  dsimp only
  have H1 := H.new (t := T_api_Write) (cs := (wrV x).toArray) (xs := wrV x)
  have H2 := H1.new (t := T_api_Write) (cs := (wrV y).toArray) (xs := wrV y)
  refine ⟨_, H2.m1.cell (off := 0) rfl, _, H2.cell (off := 0) rfl, _, Compare_pure _ _, _, rfl, _, H2.m1.cell (off := 1) rfl, _, H2.cell (off := 1) rfl, _, Compare_pure _ _, _, rfl, _, H2.m1.cell (off := 2) rfl, _, H2.cell (off := 2) rfl, _, Compare_pure _ _, _, rfl, ?_⟩
  refine or_hs (H2.tl.tl.new (xs := [.int .i64 (cmpI x.k.t y.k.t), .int .i64 (cmpI x.k.a y.k.a), .int .i64 (cmpI x.k.e y.k.e)])) fun h4 H4 => ⟨_, rfl, k h4 _ ?_ H4⟩
  exact cmp3 x.k y.k
/-- The iterator over the values of a map, for any receiver. -/
theorem Values1_hs {y : Value} {t1 r : Nat} {l : List (Key × Wr)} (A : List Wr → Assn) (hy : ∀ (done : List Wr) (w : Wr) (M : List Assn) (h : Heap) (R : VP), done.length < l.length → Hs h (A done :: M) → (∀ h', Hs h' (A (done ++ [w]) :: M) → R (.bool true) h') → callV PP y [.agg (wrV w).toArray] R h)
    (H : Hs h (A [] :: mp keyA wrA r l :: pt t1 T_map_api_Key_api_Write [.map (some r)] :: L)) (k : ∀ h' done, done.Perm (l.map (·.2)) → Hs h' (A done :: mp keyA wrA r l :: pt t1 T_map_api_Key_api_Write [.map (some r)] :: L) → Q (.tuple #[]) h') :
    SpecH PP F_maps_Values_map_api_Key_api_Write_api_Key_api_Write_1 [y, .pointer (some ⟨t1, 0, none⟩)] h Q := by
  refine maps_Values_map_api_Key_api_Write_api_Key_api_Write_1.door ⟨_, H.m2.cell (off := 0) rfl, ?_⟩
  refine H.m1.range (t := T_map_api_Key_api_Write) U_map_api_Key_api_Write fun h1 i H1 => ⟨_, rfl, ?_⟩
  have go : ∀ (m : Nat) {h : Heap} {done todo : List (Key × Wr)}, todo.length ≤ m → Hs h (rgn keyA wrA r i l done todo :: A (done.map (·.2)) :: pt t1 T_map_api_Key_api_Write [.map (some r)] :: L) →
      maps_Values_map_api_Key_api_Write_api_Key_api_Write_1.L1 y (.pointer (some ⟨i, 0, none⟩)) (maps_Values_map_api_Key_api_Write_api_Key_api_Write_1.K1 Q) h := by
    intro m
    induction m with
    | zero =>
      intro h done todo hm H
      refine maps_Values_map_api_Key_api_Write_api_Key_api_Write_1.L1_of ?_
      refine H.next (fun e => ⟨false, [], rfl, br_false rfl (maps_Values_map_api_Key_api_Write_api_Key_api_Write_1.L1_X0 ?_)⟩) (fun h' x todo' p _ => by have := p.length_eq; simp at this; omega)
      have hp := H.rgn_perm
      rw [e, List.append_nil] at hp
      exact k h _ (hp.map _) H.rgn_end.m1
    | succ m ih =>
      intro h done todo hm H
      refine maps_Values_map_api_Key_api_Write_api_Key_api_Write_1.L1_of ?_
      have hp := H.rgn_perm
      refine H.next (fun e => ⟨false, [], rfl, br_false rfl (maps_Values_map_api_Key_api_Write_api_Key_api_Write_1.L1_X0 ?_)⟩) (fun h' x todo' p H2 => ⟨true, [keyA x.1, wrA x.2], rfl, br_true rfl ?_⟩)
      · rw [e, List.append_nil] at hp
        exact k h _ (hp.map _) H.rgn_end.m1
      · have hl := p.length_eq
        have hl2 := hp.length_eq
        simp only [List.length_append, List.length_cons] at hl hl2
        refine H2.entry ⟨_, _, rfl, _, _, _, _, _, rfl, ?_⟩
        dsimp only
        refine Hs.wrs (b := Array.size h') (xs := [.string ⟨#[]⟩, .string ⟨#[]⟩, .string ⟨#[]⟩, .bool false, .string ⟨#[]⟩]) H2.new (fun h3 H3 => ⟨_, _, _, _, _, H3.rdc0, ?_⟩)
        refine hy (done.map (·.2)) x.2 _ _ _ (by simp; omega) H3.m2 fun h4 H4 => ⟨_, rfl, br_false rfl ?_⟩
        refine ih (todo := todo') (done := done ++ [x]) (by omega) ?_
        rw [List.map_append]
        exact (H4.m1.tl).m1
  exact go l.length (Nat.le_refl _) H1
theorem wr_app {l : List Wr} {a : OA} {c : Nat} {w : Wr} {h : Heap} {K : VP} (hs : l.length ≤ 2 ^ 30) (H : Hs h (own a l.length c T_api_Write 5 (l.flatMap wrV) :: L))
    (k : ∀ h' a' c', Hs h' (own a' (l ++ [w]).length c' T_api_Write 5 ((l ++ [w]).flatMap wrV) :: L) → K (.slice a' (l ++ [w]).length c') h') :
    hwp PP (Builtin.append_ #[T_sl_api_Write, T_sl_api_Write] T_sl_api_Write #[.slice a l.length c, .slice (some ⟨Array.size h, 0, none⟩) 1 1]) K (Array.push h (.cells (wrV w).toArray T_api_Write (0, 0))) := by
  refine H.app_vals E_sl_api_Write (m := 1) (ys := wrV w) rfl rfl (by intro v hv; simp [wrV] at hv; rcases hv with rfl | rfl | rfl | rfl | rfl <;> rfl) (fun h' a' c' H' => ?_) (by omega) (by omega)
  have e : l.flatMap wrV ++ wrV w = (l ++ [w]).flatMap wrV := by simp
  rw [e] at H'
  have := k h' a' c'
  rw [List.length_append] at this
  exact this H'
def VA (out l df : Nat) (Lp : Loop) (dn : List Wr) : Assn := fun m => ∃ a c, Sp [ob l (.loop Lp), ob df (.deferred (some [])), pt out T_sl_api_Write [.slice a dn.length c], own a dn.length c T_api_Write 5 (dn.flatMap wrV)] m
theorem VA_open {out l df : Nat} {Lp : Loop} {dn : List Wr} {M : List Assn} : Hs h (VA out l df Lp dn :: M) ↔ ∃ a c, Hs h (ob l (.loop Lp) :: ob df (.deferred (some [])) :: pt out T_sl_api_Write [.slice a dn.length c] :: own a dn.length c T_api_Write 5 (dn.flatMap wrV) :: M) := by
  unfold VA
  simp only [Hs.ex, Hs.app, List.cons_append, List.nil_append]
/-- The values of a map, collected and sorted. -/
theorem Sorted_hs {r t1 : Nat} {l : List (Key × Wr)} (hl : l.length ≤ 2 ^ 20) (H : Hs h (mp keyA wrA r l :: pt t1 T_map_api_Key_api_Write [.map (some r)] :: L))
    (k : ∀ h' a c (e : List Wr), e.Perm (l.map (·.2)) → e.Pairwise (fun x y => wlt y x = false) → Hs h' (own a e.length c T_api_Write 5 (e.flatMap wrV) :: mp keyA wrA r l :: pt t1 T_map_api_Key_api_Write [.map (some r)] :: L) → Q (.slice a e.length c) h') :
    SpecH PP F_slices_SortedFunc_api_Write [.func (.func F_maps_Values_map_api_Key_api_Write_api_Key_api_Write_1) #[] #[.pointer (some ⟨t1, 0, none⟩)], .func (.func F_valid_Set_Writes_1) #[] #[]] h Q := by
  refine slices_SortedFunc_api_Write.door ?_
  -- collected
  have coll : ∀ {Q : Value → Heap → Prop}, (∀ h' a c (dn : List Wr), dn.Perm (l.map (·.2)) → Hs h' (own a dn.length c T_api_Write 5 (dn.flatMap wrV) :: mp keyA wrA r l :: pt t1 T_map_api_Key_api_Write [.map (some r)] :: L) → Q (.slice a dn.length c) h') →
      SpecH PP F_slices_AppendSeq_api_Write_api_Write [.slice none 0 0, .func (.func F_maps_Values_map_api_Key_api_Write_api_Key_api_Write_1) #[] #[.pointer (some ⟨t1, 0, none⟩)]] h Q := by
    intro Q k
    obtain ⟨m, sm, s0, HE⟩ := Hs.em2 (As := [mp keyA wrA r l, pt t1 T_map_api_Key_api_Write [.map (some r)]]) H
    refine SpecH.keepD (slices_AppendSeq_api_Write_api_Write.door ?_)
    dsimp only
    have H1 := HE.new (t := T_sl_api_Write) (cs := #[.slice none 0 0]) (xs := [.slice none 0 0])
    generalize Array.push h (.cells #[.slice none 0 0] T_sl_api_Write (0, 0)) = h1 at H1 ⊢
    generalize Array.size h = out at H1 ⊢
    refine ⟨F_maps_Values_map_api_Key_api_Write_api_Key_api_Write_1, #[], #[.pointer (some ⟨t1, 0, none⟩)], rfl, by kernel_rfl, fun fn tmps hf => ?_⟩
    generalize hL : (Loop.mk .ready none fn tmps #[7] (slices_AppendSeq_api_Write_api_Write.cd 52) (slices_AppendSeq_api_Write_api_Write.cd 53) h1.size) = Lp
    have H3 := (H1.push (.deferred (some []))).push (.loop Lp)
    rw [Array.size_push] at H3
    generalize (Array.push (Array.push h1 (.deferred (some []))) (.loop Lp)) = h3 at H3 ⊢
    generalize Array.size h1 = df at H3 hL ⊢
    show SpecH PP F_maps_Values_map_api_Key_api_Write_api_Key_api_Write_1 [_, _] _ _
    refine Values1_hs (r := r) (l := l) (L := [Em m]) (VA out (df + 1) df Lp) ?_ ?_ ?_
    · intro dn w M h R hdn H rt
      obtain ⟨a2, c2, H⟩ := VA_open.1 H
      refine slices_AppendSeq_api_Write_api_Write.R1_yield (s2 := ⟨out, 0, none⟩) (t4 := none) (t4n := 0) (t4c := 0) H.get (by rw [← hL]) (by rw [← hL]) (by rw [← hL]) (by rw [← hL]; exact hf) (slices_AppendSeq_api_Write_api_Write.R1_of ?_)
      dsimp only
      refine Hs.wrs (b := Array.size h) (xs := [.string ⟨#[]⟩, .string ⟨#[]⟩, .string ⟨#[]⟩, .bool false, .string ⟨#[]⟩]) H.new (fun h2 H2 => ?_)
      generalize Array.size h = x at H2 ⊢
      refine ⟨Lp, H2.m1.get, by rw [← hL], ?_⟩
      have H3 := H2.m1.set (.loop { Lp with state := .busy })
      generalize h2.setIfInBounds (df + 1) (.loop { Lp with state := .busy }) = h3 at H3 ⊢
      refine ⟨_, _, _, H3.m3.cell (off := 0) rfl, _, _, _, _, _, H3.m1.rdc0, ?_⟩
      refine wr_app (w := w) (by omega) H3.m4 fun h5 a5 c5 H5 => ⟨_, _, _, rfl, ?_⟩
      refine (H5.m4).sto (off := 0) (by simp) fun h6 H6 => ?_
      refine ⟨{ Lp with state := .busy }, H6.m2.get, ?_⟩
      have eL : endL { Lp with state := .busy } none = .loop Lp := by rw [← hL]; rfl
      rw [eL]
      have H7 := H6.m2.set (.loop Lp)
      refine rt _ (VA_open.2 ⟨a5, c5, ?_⟩)
      exact (H7.m4.m4.tl).m1
    · refine VA_open.2 ⟨none, 0, ?_⟩
      have H4 := H3.own_nil T_api_Write 5
      exact H4.m3.m3.m3
    · intro h' dn p H
      obtain ⟨a2, c2, H⟩ := VA_open.1 H
      refine ⟨Lp, H.get, by rw [← hL]; simp, H.m1.get, ?_⟩
      have H4 := H.set (.loop { Lp with state := .exhausted })
      generalize h'.setIfInBounds (df + 1) (.loop { Lp with state := .exhausted }) = h4 at H4 ⊢
      rw [show Lp.pending = none by rw [← hL]]
      show slices_AppendSeq_api_Write_api_Write.K1 _ .normal _ _
      refine slices_AppendSeq_api_Write_api_Write.R1_outn0 ⟨_, _, _, (H4.m2).cell (off := 0) rfl, fun h5 tk kd => ?_⟩
      refine k h5 a2 c2 dn p (Hs.takes2 (As := [_, _, _]) (M := []) (?_ : Hs h4 ([_, _, _] ++ Em m :: [])) sm s0 tk kd ?_)
      · exact H4.tl.tl.tl
      · intro A hA m hm
        simp only [List.mem_cons, List.not_mem_nil, or_false] at hA
        rcases hA with rfl | rfl | rfl
        · exact nd_own hm
        · exact nd_mp hm
        · exact nd_pt hm
  refine slices_Collect_api_Write.door (coll fun h1 a c dn p H1 => ⟨_, _, _, rfl, ⟨_, _, _, rfl, ?_⟩⟩)
  have hsz : (dn.toArray).size = dn.length := by simp
  have hlen : dn.length = l.length := by rw [p.length_eq, List.length_map]
  have H2 : Hs h1 (Srtapi_Write.S a dn.length c dn.toArray :: mp keyA wrA r l :: pt t1 T_map_api_Key_api_Write [.map (some r)] :: L) := H1
  refine Srtapi_Write.SortFunc_hs cmp_ok wlt_swo (by omega) H2 fun h3 e pe he H3 => ⟨rfl, ?_⟩
  have hn := Srtapi_Write.S_size H3
  have hel : e.toList.length = dn.length := by rw [Array.length_toList, hn]
  have := k h3 a c e.toList (pe.trans p) ?_
  · rw [hel] at this; exact this H3
  · rw [List.pairwise_iff_getElem]
    intro i j hi hj hij
    have := he i j hij (by rw [hel] at hj; exact hj)
    rw [getElem!_pos e j (by omega), getElem!_pos e i (by omega)] at this
    simpa using this
end Go.Proofs.Ytcdifhgocjjbpaa

/- The law Finds: two ranges over the iterator. -/
import Derived.Test.YtaolpeimlkpkbaaLaws3
set_option maxRecDepth 20000
set_option linter.unusedVariables false
set_option linter.unusedSimpArgs false
namespace Go.Proofs.Ytaolpeimlkpkbaa
open Go Go.HW
variable {h : Heap} {L : List Assn} {Q : Value → Heap → Prop}
def isFn : Option TypeDesc → Bool | some (.func _ _ _) => true | _ => false
theorem eqFn_ok {P : Program} {t : TypeId} {d : Nat} (hu : isFn (P.underlying t) = true) {f : Fn} {bs rs : Array Value} {K : Bool → Heap → Prop} (H : K false h) : hwp P (Op.equalIn (d + 1) t (.func f bs rs) .nilFunc) K h := by
  unfold Op.equalIn
  cases e : P.underlying t with
  | none => rw [e] at hu; cases hu
  | some ty =>
    rw [e] at hu
    cases ty <;> first | cases hu | skip
    exact (hwp_bind' _ _ _ _).2 ((hwp_underlying e).2 H)
theorem eqFn {P : Program} {t : TypeId} (hu : isFn (P.underlying t) = true) {x y : Operand} {f : Fn} {bs rs : Array Value} {K : Value → Heap → Prop} (H : K (.bool false) h) :
    hwp P (do eqGuard .eql t x y (.func f bs rs) .nilFunc; Go.binOp .eql t (.func f bs rs) .nilFunc) K h := by
  refine (hwp_bind' _ _ _ _).2 ?_
  refine (hwp_bind' _ _ _ _).2 ?_
  exact eqFn_ok hu H
/-- What stays while the iterator is read: the place of the number, of the round, the variables. -/
def FA (e3 t4 w6 : Nat) (early : Int) (wa : OA) (wc : Nat) (T : List Tok) : List Assn := [pt e3 T_int [.int .i64 early], pt t4 T_bool [.bool false], pt w6 T_sl_api_Token [.slice wa T.length wc], own wa T.length wc T_api_Token 3 (T.flatMap tokV)]
section
variable {e3 t4 w6 t1 k11 x12 l df sn sd : Nat} {early : Int} {wa sb : OA} {wc : Nat} {D : List Nat} {M : List Assn}
theorem Finds_round (T : List Tok) (hT : T.length ≤ 16384) {k j : Nat} {Lp : Loop} (hj : j < T.length) (hk : k < 2) {R : VP} {fn : FuncId} {tmps : Array Value}
    (hL : Loop.mk .ready none fn tmps #[81] (law06_MatchFinds.cd 16774292) (law06_MatchFinds.cd 16774293) df = Lp)
    (hf : FrRel (mkFr 0 118 [(3, (.pointer (some ⟨e3, 0, none⟩))), (4, (.pointer (some ⟨t4, 0, none⟩))), (6, (.pointer (some ⟨w6, 0, none⟩))), (8, (.func (.func F_match_All_1) #[] #[.pointer (some ⟨t1, 0, none⟩)])), (11, (.pointer (some ⟨k11, 0, none⟩))), (12, (.pointer (some ⟨x12, 0, none⟩)))]) tmps)
    (H : Hs h (ob l (.loop Lp) :: ob df (.deferred (some [])) :: pt x12 T_int [.int .i64 j] :: pt k11 T_int [.int .i64 k] :: (FA e3 t4 w6 early wa wc T ++ M)))
    (rt : ∀ h', Hs h' (ob l (.loop Lp) :: ob df (.deferred (some [])) :: pt x12 T_int [.int .i64 ((j + 1 : Nat) : Int)] :: pt k11 T_int [.int .i64 k] :: (FA e3 t4 w6 early wa wc T ++ M)) → R (.bool true) h')
    (rf : ∀ h', k = 0 → ((j + 1 : Nat) : Int) = early → Hs h' (ob l (endL Lp (some (.exit 4))) :: ob df (.deferred (some [])) :: pt x12 T_int [.int .i64 ((j + 1 : Nat) : Int)] :: pt k11 T_int [.int .i64 k] :: (FA e3 t4 w6 early wa wc T ++ M)) → R (.bool false) h') :
    callV PP (.func (.yield l) #[] #[]) [.agg #[.int .u8 (T[j]).lit, .int .i64 (T[j]).len, .int .i64 (T[j]).dist]] R h := by
  unfold FA at *
  simp only [List.cons_append, List.nil_append] at *
  refine law06_MatchFinds.R1_yield (early3 := ⟨e3, 0, none⟩) (t4 := ⟨t4, 0, none⟩) (want6 := ⟨w6, 0, none⟩) (seq8 := .func (.func F_match_All_1) #[] #[.pointer (some ⟨t1, 0, none⟩)]) (k11 := ⟨k11, 0, none⟩) (xn12 := ⟨x12, 0, none⟩) H.get (by rw [← hL]) (by rw [← hL]) (by rw [← hL]) (by rw [← hL]; exact hf) (law06_MatchFinds.R1_of ?_)
  dsimp only
  refine Hs.wrs (b := Array.size h) (xs := [.int .u8 0, .int .i64 0, .int .i64 0]) H.new (fun h2 H2 => ?_)
  generalize Array.size h = x at H2 ⊢
  refine ⟨Lp, H2.m1.get, by rw [← hL], ?_⟩
  have H3 := H2.m1.set (.loop { Lp with state := .busy })
  generalize h2.setIfInBounds l (.loop { Lp with state := .busy }) = h3 at H3 ⊢
  refine ⟨_, H3.m3.cell (off := 0) rfl, _, _, _, H3.m7.cell (off := 0) rfl, br_false (decide_eq_false (by omega)) ?_⟩
  refine ⟨_, _, _, H3.m1.rdc0, _, _, _, H3.m7.cell (off := 0) rfl, _, H3.m3.cell (off := 0) rfl, ?_⟩
  refine idxf E_sl_api_Token (φ := tokV) (l := T) (x := T[j]) (H3.m8.rd) tokV_len (by omega) (by omega) (by omega) (by simp) fun t ht => ⟨_, _, _, ht, ?_⟩
  rw [show (!(((T[j].lit : Int) == T[j].lit) && ((T[j].len == T[j].len) && ((T[j].dist == T[j].dist) && true)))) = false by simp]
  refine law06_MatchFinds.J3_of (br_false rfl ⟨_, H3.m3.cell (off := 0) rfl, ?_⟩)
  dsimp only
  rw [inc1 (i := j) (by omega)]
  refine H3.m3.sto (off := 0) (by simp) fun h4 H4 => ?_
  have H4 : Hs h4 (pt x12 T_int [.int .i64 ((j + 1 : Nat) : Int)] :: ob l (.loop { Lp with state := .busy }) :: pt x T_api_Token (tokV T[j]) :: ob df (.deferred (some [])) :: pt k11 T_int [.int .i64 k] :: pt e3 T_int [.int .i64 early] :: pt t4 T_bool [.bool false] :: pt w6 T_sl_api_Token [.slice wa T.length wc] :: own wa T.length wc T_api_Token 3 (T.flatMap tokV) :: M) := H4
  have H5 := (H4.m2.tl).m2.m2
  have go : ∀ (p : Option Code) {L2 : Obj}, endL { Lp with state := .busy } p = L2 → Hs (h4.setIfInBounds l L2) (ob l L2 :: ob df (.deferred (some [])) :: pt x12 T_int [.int .i64 ((j + 1 : Nat) : Int)] :: pt k11 T_int [.int .i64 k] :: pt e3 T_int [.int .i64 early] :: pt t4 T_bool [.bool false] :: pt w6 T_sl_api_Token [.slice wa T.length wc] :: own wa T.length wc T_api_Token 3 (T.flatMap tokV) :: M) := by
    rintro p _ rfl
    exact H5.set _
  have e0 : endL { Lp with state := .busy } none = .loop Lp := by rw [← hL]; rfl
  refine ⟨_, H4.m4.cell (off := 0) rfl, (br_iff _ _ _).2 ⟨fun e => ?_, fun e => ?_⟩⟩
  · have e := beq_iff_eq.1 e
    refine ⟨_, H4.cell (off := 0) rfl, _, H4.m5.cell (off := 0) rfl, (br_iff _ _ _).2 ⟨fun e2 => ?_, fun e2 => ?_⟩⟩
    · have e2 := beq_iff_eq.1 e2
      exact ⟨_, H5.get, rf _ (by omega) e2 (go _ rfl)⟩
    · exact ⟨_, H5.get, by rw [e0]; exact rt _ (go none e0)⟩
  · exact ⟨_, H5.get, by rw [e0]; exact rt _ (go none e0)⟩
def RA (e3 t4 w6 x12 k11 l df : Nat) (early : Int) (wa : OA) (wc : Nat) (T : List Tok) (k : Nat) (Lo : Obj) (j : Nat) : Assn :=
  Sp (ob l Lo :: ob df (.deferred (some [])) :: pt x12 T_int [.int .i64 (j : Int)] :: pt k11 T_int [.int .i64 k] :: FA e3 t4 w6 early wa wc T)
theorem RA_open {Lo : Obj} {T : List Tok} {k j : Nat} : Hs h (RA e3 t4 w6 x12 k11 l df early wa wc T k Lo j :: M) ↔ Hs h (ob l Lo :: ob df (.deferred (some [])) :: pt x12 T_int [.int .i64 (j : Int)] :: pt k11 T_int [.int .i64 k] :: (FA e3 t4 w6 early wa wc T ++ M)) := Hs.app
/-- One range over the iterator. -/
theorem Finds_range {n : Nat} {k : Nat} {K : EP} (hb : ∀ x ∈ D, x < 256) (hn : D.length = n) (hsd : n ≤ sd) (hsb : sb = none → sd = 0) (hk : k < 2)
    (H : Hs h (pt x12 T_int [.int .i64 ((0 : Nat) : Int)] :: pt k11 T_int [.int .i64 k] :: (FA e3 t4 w6 early wa wc (find D) ++ pt t1 T_sl_uint8 [.slice sb n sd] :: own sb n sd T_uint8 1 (nV D) :: M)))
    (kk : ∀ h' (v : Nat), (v = (find D).length ∨ (k = 0 ∧ (v : Int) = early)) → Hs h' (pt x12 T_int [.int .i64 (v : Int)] :: pt k11 T_int [.int .i64 k] :: (FA e3 t4 w6 early wa wc (find D) ++ pt t1 T_sl_uint8 [.slice sb n sd] :: own sb n sd T_uint8 1 (nV D) :: M)) →
      law06_MatchFinds.J4 ⟨e3, 0, none⟩ ⟨t4, 0, none⟩ ⟨w6, 0, none⟩ (.func (.func F_match_All_1) #[] #[.pointer (some ⟨t1, 0, none⟩)]) ⟨k11, 0, none⟩ ⟨x12, 0, none⟩ K h') :
    rangeK PP (.func (.func F_match_All_1) #[] #[.pointer (some ⟨t1, 0, none⟩)]) #[81] (law06_MatchFinds.cd 16774292) (law06_MatchFinds.cd 16774293)
      (mkFr 0 118 [(3, (.pointer (some ⟨e3, 0, none⟩))), (4, (.pointer (some ⟨t4, 0, none⟩))), (6, (.pointer (some ⟨w6, 0, none⟩))), (8, (.func (.func F_match_All_1) #[] #[.pointer (some ⟨t1, 0, none⟩)])), (11, (.pointer (some ⟨k11, 0, none⟩))), (12, (.pointer (some ⟨x12, 0, none⟩)))]) (law06_MatchFinds.K6 K) h := by
  refine ⟨F_match_All_1, #[], #[.pointer (some ⟨t1, 0, none⟩)], rfl, by kernel_rfl, fun fn tmps hf => ?_⟩
  generalize hL : (Loop.mk .ready none fn tmps #[81] (law06_MatchFinds.cd 16774292) (law06_MatchFinds.cd 16774293) h.size) = Lp
  have H3 := (H.push (.deferred (some []))).push (.loop Lp)
  rw [Array.size_push] at H3
  generalize (Array.push (Array.push h (.deferred (some []))) (.loop Lp)) = h3 at H3 ⊢
  generalize Array.size h = df at H3 hL ⊢
  have fl := find_le D
  have strip : ∀ {h' : Heap} {Lo : Obj} {v : Nat}, Hs h' (ob (df + 1) Lo :: ob df (.deferred (some [])) :: pt x12 T_int [.int .i64 (v : Int)] :: pt k11 T_int [.int .i64 k] :: (FA e3 t4 w6 early wa wc (find D) ++ pt t1 T_sl_uint8 [.slice sb n sd] :: own sb n sd T_uint8 1 (nV D) :: M)) →
      Hs h' (pt x12 T_int [.int .i64 (v : Int)] :: pt k11 T_int [.int .i64 k] :: (FA e3 t4 w6 early wa wc (find D) ++ pt t1 T_sl_uint8 [.slice sb n sd] :: own sb n sd T_uint8 1 (nV D) :: M)) := fun H => H.tl.tl
  show SpecH PP F_match_All_1 [_, _] _ _
  refine All1_hs (da := sb) (D := D) (t1 := t1) (n := n) (c := sd) (L := own sb n sd T_uint8 1 (nV D) :: M) (fun j => RA e3 t4 w6 x12 k11 (df + 1) df early wa wc (find D) k (.loop Lp) j)
    (fun j m => (k = 0 ∧ ((j + 1 : Nat) : Int) = early) ∧ RA e3 t4 w6 x12 k11 (df + 1) df early wa wc (find D) k (endL Lp (some (.exit 4))) (j + 1) m) hb Gv.own hn hsd hsb ?_ ?_ ?_ ?_
  · intro j hj M h R H rt rf
    exact Finds_round (find D) fl hj hk hL hf (RA_open.1 H) (fun h' H' => rt h' (RA_open.2 H')) (fun h' hk0 he H' => rf h' (Hs.and.2 ⟨⟨hk0, he⟩, RA_open.2 H'⟩))
  · refine RA_open.2 ?_
    exact H3
  · intro h' H'
    have H' := RA_open.1 H'
    refine ⟨Lp, H'.get, by rw [← hL]; simp, H'.m1.get, ?_⟩
    have H4 := H'.set (.loop { Lp with state := .exhausted })
    generalize h'.setIfInBounds (df + 1) (.loop { Lp with state := .exhausted }) = h4 at H4 ⊢
    rw [show Lp.pending = none by rw [← hL]]
    show law06_MatchFinds.K6 K .normal _ _
    exact law06_MatchFinds.R1_outn0 (kk _ _ (.inl rfl) (strip H4))
  · intro j h' hj H'
    obtain ⟨he, H'⟩ := Hs.and.1 H'
    have H' := RA_open.1 H'
    refine ⟨{ Lp with state := .done, pending := some (.exit 4) }, H'.get, by simp, H'.m1.get, ?_⟩
    have H4 := H'.set (.loop { { Lp with state := .done, pending := some (.exit 4) } with state := .exhausted })
    generalize h'.setIfInBounds (df + 1) (.loop { { Lp with state := .done, pending := some (.exit 4) } with state := .exhausted }) = h4 at H4 ⊢
    show law06_MatchFinds.K6 K (.exit 4) _ _
    exact law06_MatchFinds.R1_outexit4 (kk _ _ (.inr he) (strip H4))
/-- Two ranges, one behind the other. -/
theorem Finds_loop {n : Nat} (hb : ∀ x ∈ D, x < 256) (hn : D.length = n) (hsd : n ≤ sd) (hsb : sb = none → sd = 0) (fin : ∀ {h' : Heap} {v : Nat}, Hs h' (pt v T_int [.int .i64 ((2 : Nat) : Int)] :: (FA e3 t4 w6 early wa wc (find D) ++ pt t1 T_sl_uint8 [.slice sb n sd] :: own sb n sd T_uint8 1 (nV D) :: M)) → law06_MatchFinds.K4 Q (.exit 2) (law06_MatchFinds.X2 ⟨t4, 0, none⟩) h') :
    ∀ (r k : Nat) {h : Heap} {k11 : Nat}, r + k = 2 → Hs h (pt k11 T_int [.int .i64 k] :: (FA e3 t4 w6 early wa wc (find D) ++ pt t1 T_sl_uint8 [.slice sb n sd] :: own sb n sd T_uint8 1 (nV D) :: M)) →
      law06_MatchFinds.L2 ⟨e3, 0, none⟩ ⟨t4, 0, none⟩ ⟨w6, 0, none⟩ (.func (.func F_match_All_1) #[] #[.pointer (some ⟨t1, 0, none⟩)]) ⟨k11, 0, none⟩ (law06_MatchFinds.K4 Q) h := by
  intro r
  induction r with
  | zero =>
    intro k h k11 hk H
    obtain rfl : k = 2 := by omega
    exact law06_MatchFinds.L2_of ⟨_, H.cell (off := 0) rfl, br_false (decide_eq_false (by omega)) (fin H)⟩
  | succ r ih =>
    intro k h k11 hk H
    refine law06_MatchFinds.L2_of ⟨_, H.cell (off := 0) rfl, br_true (decide_eq_true (by omega)) ?_⟩
    refine (H.new (t := T_int) (cs := #[.int .i64 0]) (xs := [.int .i64 0])).sto (off := 0) (by simp) fun h2 H2 => ?_
    generalize Array.size h = x12 at H2 ⊢
    refine Finds_range hb hn hsd hsb (by omega) H2 fun h3 v hv H3 => ?_
    have J5 : law06_MatchFinds.J5 ⟨e3, 0, none⟩ ⟨t4, 0, none⟩ ⟨w6, 0, none⟩ (.func (.func F_match_All_1) #[] #[.pointer (some ⟨t1, 0, none⟩)]) ⟨k11, 0, none⟩ false (law06_MatchFinds.K4 Q) h3 := by
      refine law06_MatchFinds.J5_of (br_false rfl ⟨_, H3.m1.cell (off := 0) rfl, ?_⟩)
      dsimp only
      refine (H3.tl.tl.new (t := T_int) (cs := #[.int .i64 0]) (xs := [.int .i64 0])).sto (off := 0) (by simp) fun h4 H4 => ⟨_, H4.cell (off := 0) rfl, ?_⟩
      refine H4.sto (off := 0) (by simp) fun h5 H5 => ?_
      rw [inc1 (i := k) (by omega)] at H5
      exact ih (k + 1) (by omega) H5
    unfold FA at H3
    simp only [List.cons_append, List.nil_append] at H3
    refine law06_MatchFinds.J4_of ⟨_, H3.cell (off := 0) rfl, _, _, _, H3.m4.cell (off := 0) rfl, (br_iff _ _ _).2 ⟨fun e => ?_, fun e => J5⟩⟩
    have e := bne_iff_ne.1 e
    have hv : k = 0 ∧ (v : Int) = early := by rcases hv with h | h; exact absurd (by rw [h]) e; exact h
    refine ⟨_, H3.m1.cell (off := 0) rfl, br_false (by rw [hv.1]; rfl) ⟨_, H3.cell (off := 0) rfl, _, H3.m2.cell (off := 0) rfl, ?_⟩⟩
    rw [show ((v : Int) != early) = false by rw [hv.2]; simp]
    exact J5
theorem MatchFinds_spec {a : OA} {n c : Nat} {D : List Nat} {early : Int} (hr : Rd h a (nV D)) (hn : D.length = n) (hn0 : a = none → n = 0) (hb : ∀ x ∈ D, x < 256) (HQ : ∀ h', ExtB h.size h h' → Q (.bool true) h') : SpecH PP F_law06_MatchFinds [.slice a n c, .int .i64 early] h Q := by
  obtain ⟨m, sm, s0, HE⟩ := (Hs.start h).em
  refine SpecH.keepD (law06_MatchFinds.door ?_)
  have fin : ∀ {h4 : Heap} {M : List Assn}, Hs h4 (Em m :: M) → ∀ h5, Takes h4 h5 → KeepD h h5 → Q (.bool true) h5 := fun H h5 t k => HQ _ (H.takes0 sm s0 t k).ro_below
  have g : ∀ {M : List Assn}, Gv (Em m :: M) a (nV D) := fun {M} => (Gv.ro (L := []) hr).em sm
  dsimp only
  have H1 := HE.new (t := T_int) (cs := #[.int .i64 early]) (xs := [.int .i64 early])
  generalize Array.push h (.cells #[.int .i64 early] T_int (0, 0)) = h1 at H1 ⊢
  generalize Array.size h = e3 at H1 ⊢
  have H2 := H1.new (t := T_bool) (cs := #[.bool false]) (xs := [.bool false])
  generalize Array.push h1 (.cells #[.bool false] T_bool (0, 0)) = h2 at H2 ⊢
  generalize Array.size h1 = t4 at H2 ⊢
  refine (br_iff _ _ _).2 ⟨fun e => ?_, fun e => ?_⟩
  · refine awake_hs H2 fun h3 H3 => ⟨_, rfl, H3.sto (off := 0) (by simp) fun h4 H4 => ⟨_, H4.cell (off := 0) rfl, fin H4.tl.tl⟩⟩
  have e := of_decide_eq_false e
  have hn2 : n ≤ 1048576 := by omega
  rw [inc1 (i := n) (by omega)]
  refine H2.make E_sl_uint8 rfl rfl (Nat.le_refl _) (by omega) (by omega) fun h3 b H3 => ⟨_, _, _, rfl, ?_⟩
  refine H3.copy (off := 0) (ys := nV D) E_sl_uint8 (by rw [nV_len]; simp; omega) (g.cons.cons.cons _ H3) hn0 (by rw [nV_len, hn, Nat.min_eq_left (by omega), Nat.mul_one]) (nV_one _) fun h4 H4 => ⟨_, rfl, ?_⟩
  have e1 : (List.replicate (n + 1) (Value.int .u8 0)).take 0 ++ nV D ++ (List.replicate (n + 1) (Value.int .u8 0)).drop (0 + (nV D).length) = nV (D ++ 0 :: []) := by
    rw [List.take_zero, List.nil_append, nV_len, hn, List.drop_replicate, nV_app]; congr 1
    rw [show n + 1 - (0 + n) = 1 by omega]; rfl
  rw [e1] at H4
  have hl : ∀ x : Nat, (nV (D ++ x :: [])).length = n + 1 := fun x => by rw [nV_len, List.length_append, hn]; rfl
  refine (H4.pt_all (n := n + 1) (hl 0)).idx_set E_sl_uint8 (by omega) (by omega) rfl fun h5 H5 => ?_
  rw [Int.toNat_natCast, show (Value.int .u8 99) = .int .u8 ((99 : Nat) : Int) from rfl, nV_setat hn] at H5
  refine RFind_hs g.cons.cons.cons hn H5 fun h6 wa wc H6 => ⟨_, _, _, rfl, ?_⟩
  refine (H6.new (t := T_sl_api_Token) (cs := #[.slice none 0 0]) (xs := [.slice none 0 0])).sto (off := 0) (by simp) fun h7 H7 => ?_
  generalize Array.size h6 = w6 at H7 ⊢
  have gb : ∀ {M : List Assn}, Gv (own (some ⟨b, 0, none⟩) (n + 1) (n + 1) T_uint8 1 (nV (D ++ 99 :: [])) :: M) (some ⟨b, 0, none⟩) (nV D) := fun {M} => by
    have := (Gv.own (L := M) (a := some ⟨b, 0, none⟩) (n := n + 1) (c := n + 1) (e := T_uint8) (sz := 1) (xs := nV (D ++ 99 :: []))).take D.length
    rwa [show (nV (D ++ 99 :: [])).take D.length = nV D by rw [nV_app, List.take_append_of_le_length (by rw [nV_len]; exact Nat.le_refl _), List.take_of_length_le (by rw [nV_len]; exact Nat.le_refl _)]] at this
  refine slice_pre E_sl_uint8 (by omega) ⟨_, _, _, rfl, ?_⟩
  refine Find_hs hb gb.cons.cons hn (by omega) (by simp) H7 fun h8 ta tc H8 => ⟨_, _, _, rfl, ?_⟩
  refine slice_pre E_sl_uint8 (by omega) ⟨_, _, _, rfl, ?_⟩
  refine All_hs gb.cons.cons.cons hn (by omega) (by simp) H8 fun h9 t1 sb sd hsd hsb H9 => ⟨_, rfl, ?_⟩
  have g9 : Rd h9 (some ⟨b, 0, none⟩) (nV (D ++ 99 :: [])) := H9.m5.rd
  refine idx E_sl_uint8 g9 (by omega) (by omega) (by rw [Int.toNat_natCast]; exact nVd (by simp; omega)) fun t ht => ⟨_, ht, ?_⟩
  have e99 : List.getD (D ++ 99 :: []) n 0 = 99 := by rw [List.getD_eq_getElem?_getD, List.getElem?_append_right (by omega), hn, Nat.sub_self]; rfl
  rw [e99]
  refine br_true rfl (slice_pre E_sl_uint8 (by omega) ⟨_, _, _, rfl, ?_⟩)
  refine BSame_hs gb.cons.cons.cons.cons.cons g.cons.cons.cons.cons.cons.cons.cons.cons hn (by omega) H9 ⟨_, rfl, law06_MatchFinds.J1_of ?_⟩
  have last : ∀ {hh : Heap}, Hs hh (pt t1 T_sl_uint8 [.slice sb n sd] :: own sb n sd T_uint8 1 (nV D) :: own ta (find D).length tc T_api_Token 3 ((find D).flatMap tokV) :: pt w6 T_sl_api_Token [.slice wa (find D).length wc] :: own wa (find D).length wc T_api_Token 3 ((find D).flatMap tokV) :: pt t4 T_bool [.bool false] :: pt e3 T_int [.int .i64 early] :: [Em m]) →
      law06_MatchFinds.K1 (fun v h' => KeepD h h' → Q v h') (.exit 0) (law06_MatchFinds.X0 ⟨e3, 0, none⟩ ⟨t4, 0, none⟩ ⟨w6, 0, none⟩ ta (find D).length tc (.func (.func F_match_All_1) #[] #[.pointer (some ⟨t1, 0, none⟩)]) true) hh := by
    intro hh H
    refine law06_MatchFinds.L1_X0 (eqFn (by kernel_rfl) ⟨_, rfl, br_false rfl (br_false rfl ?_)⟩)
    have fl := find_le D
    refine ⟨_, _, _, H.m3.cell (off := 0) rfl, TSame_hs Gv.own.cons.cons Gv.own.cons.cons.cons.cons rfl (by omega) H ⟨_, rfl, ?_⟩⟩
    refine law06_MatchFinds.J2_of (br_false rfl ?_)
    have H := (H.m2.tl).m3.m3.m4.m5
    refine (H.new (t := T_int) (cs := #[.int .i64 0]) (xs := [.int .i64 0])).sto (off := 0) (by simp) fun h4 H4 => ?_
    refine Finds_loop (M := [Em m]) hb hn hsd hsb (fun {h5 v} H5 => law06_MatchFinds.L2_X2 ?_) 2 0 rfl H4
    refine awake_hs H5 fun h6 H6 => ⟨_, rfl, ?_⟩
    unfold FA at H6
    simp only [List.cons_append, List.nil_append] at H6
    exact H6.m2.sto (off := 0) (by simp) fun h7 H7 => ⟨_, H7.cell (off := 0) rfl, fin H7.tl.tl.tl.tl.tl.tl.tl⟩
  have go : ∀ (r i : Nat) {hh : Heap} {ys : List Value}, r + i = n + 1 → Hs hh (own (some ⟨b, 0, none⟩) (n + 1) (n + 1) T_uint8 1 ys :: pt t1 T_sl_uint8 [.slice sb n sd] :: own sb n sd T_uint8 1 (nV D) :: own ta (find D).length tc T_api_Token 3 ((find D).flatMap tokV) :: pt w6 T_sl_api_Token [.slice wa (find D).length wc] :: own wa (find D).length wc T_api_Token 3 ((find D).flatMap tokV) :: pt t4 T_bool [.bool false] :: pt e3 T_int [.int .i64 early] :: [Em m]) →
      law06_MatchFinds.L1 ⟨e3, 0, none⟩ ⟨t4, 0, none⟩ (some ⟨b, 0, none⟩) (n + 1) (n + 1) ⟨w6, 0, none⟩ ta (find D).length tc (.func (.func F_match_All_1) #[] #[.pointer (some ⟨t1, 0, none⟩)]) true i (law06_MatchFinds.K1 (fun v h' => KeepD h h' → Q v h')) hh := by
    intro r
    induction r with
    | zero => intro i hh ys hi H; exact law06_MatchFinds.L1_of (br_false (decide_eq_false (by omega)) (last H.tl))
    | succ r ih =>
      intro i hh ys hi H
      refine law06_MatchFinds.L1_of (br_true (decide_eq_true (by omega)) ?_)
      refine H.idx_set E_sl_uint8 (by omega) (by omega) rfl fun h2 H2 => ?_
      dsimp only
      rw [inc1 (i := i) (by omega)]
      exact ih (i + 1) (by omega) H2
  exact go (n + 1) 0 (by omega) H9.m5
end
end Go.Proofs.Ytaolpeimlkpkbaa

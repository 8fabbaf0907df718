/- Texts of the proof, laid together: The document's examples; the laws of Print and Parse.; The law of a book's calls.; Claims and tenants as arguments; what start-up laid, as the row tells it. -/
import Derived.Test.YtahigbbfilalgaaGreatDoorP4
import Derived.Test.YtahigbbfilalgaaGreatDoorP2
import Derived.Test.YtahigbbfilalgaaGreatDoorRows
import Derived.Lib.LaidTab
import Derived.Stop.LaidErr
import Derived.LaidSub
set_option linter.unusedVariables false
set_option linter.unusedSimpArgs false
set_option maxRecDepth 4000
namespace Go.Proofs.YtahigbbfilalgaaGreatDoor
open Go Go.HW Go.HW.Dec Go.HW.Spl
variable {h : Heap} {L : List Assn} {Q : Value → Heap → Prop}
theorem hx_ge (d : Nat) : 48 ≤ hx d := by unfold hx; split <;> omega
theorem hx_ok {d : Nat} (h : d < 16) : okx (hx d) = true := by
  have : ∀ d : Fin 16, okx (hx d.val) = true := by decide +kernel
  exact this ⟨d, h⟩
theorem hexL_mem {m : List Nat} (hm : ∀ x ∈ m, x < 256) {y : Nat} (h : y ∈ hexL m) : ∃ d, d < 16 ∧ y = hx d := by
  simp only [hexL, List.mem_flatMap] at h
  obtain ⟨x, hx', h⟩ := h
  have := hm x hx'
  simp only [List.mem_cons, List.mem_nil_iff, or_false] at h
  rcases h with rfl | rfl
  · exact ⟨_, by omega, rfl⟩
  · exact ⟨_, by omega, rfl⟩
/-- What is printed is the claim's text. -/
theorem is_print {c : Clm} {secret s m : ByteArray} (hm : mayB c = true) (hs : sb s = printL c secret) (he : sb m = hexL (macB (bodyL c) (sb secret))) : IsT s c m := by
  have hlen := printL_len hm secret
  have hl := macB_len (bodyL c) (sb secret)
  have hb := macB_lt (bodyL c) (sb secret)
  obtain ⟨h1, h2, h3, h4, h5⟩ := (mayB_iff c).1 hm
  have n1 : 46 ∉ sb c.t := fun e => by
    simp only [shortB, Bool.and_eq_true] at h1
    have := List.all_eq_true.1 h1.2 _ e
    exact absurd this (by decide)
  have n2 : ∀ n, 46 ∉ decN n := fun n e => by have := decN_dig n _ e; omega
  have n3 : 46 ∉ sb m := fun e => by
    rw [he] at e
    obtain ⟨d, hd, e⟩ := hexL_mem hb e
    have := hx_ge d; omega
  refine ⟨by rw [← sb_len, hs]; omega, ?_, hm, by rw [← sb_len, he, hexL_len, hl], ?_⟩
  · rw [hs, printL, ← he, bodyL]
    rw [show sb c.t ++ [46] ++ decN c.u.toNat ++ [46] ++ decN c.s.toNat ++ [46] ++ sb m = sb c.t ++ 46 :: (decN c.u.toNat ++ 46 :: (decN c.s.toNat ++ 46 :: sb m)) by simp]
    rw [spl_at _ _ n1, spl_at _ _ (n2 _), spl_at _ _ (n2 _), spl_none _ n3]
  · rw [List.all_eq_true, he]
    intro y hy
    obtain ⟨d, hd, rfl⟩ := hexL_mem hb hy
    exact hx_ok hd
theorem has_mac (c : Clm) (secret : ByteArray) : ∃ m : ByteArray, sb m = hexL (macB (bodyL c) (sb secret)) :=
  ⟨_, sb_st fun x hx' => by obtain ⟨d, hd, rfl⟩ := hexL_mem (macB_lt _ _) hx'; exact hx_lt hd⟩
def tA : List Tn := [⟨⟨#[97]⟩, ⟨#[107]⟩, 100, 10⟩]
theorem tA_ok : okN tA := by
  refine ⟨fun t ht => ?_, by simp [tA]⟩
  simp only [tA, List.mem_singleton] at ht
  subst ht
  exact ⟨by decide +kernel, by decide, by decide, by decide, by decide, by decide⟩
theorem tA_a : mget (sec tA) ⟨#[97]⟩ = some ⟨#[107]⟩ := by decide +kernel
theorem tA_b : mget (sec tA) ⟨#[98]⟩ = none := by decide +kernel
theorem may_a {n : Int} (h : 1 ≤ n ∧ n ≤ 5) : mayB ⟨⟨#[97]⟩, 9, n⟩ = true := (mayB_iff _).2 ⟨(by decide +kernel : shortB ⟨#[97]⟩ = true), (by decide : (0 : Int) ≤ 9), (by decide : (9 : Int) ≤ 1000000000), by simp only; omega, by simp only; omega⟩
theorem awake_h (t : TTabL L) (H : Hs h L) (kk : ∀ h', Hs h' L → Q (.bool true) h') : SpecH PP F_law16_awake [] h Q := by
  refine law16_awake.door (law16_one.door ?_)
  have P := H.new (t := T_api_Tenant) (cs := #[(.string (⟨#[97]⟩ : ByteArray)), (.string (⟨#[107]⟩ : ByteArray)), (.int .i64 100), (.int .i64 10)]) (xs := tA.flatMap Tn.l)
  refine ⟨_, _, _, rfl, New_h (ts := tA) (n := 1) Gv.pt rfl P (fun e => by omega) (fun _ e => absurd tA_ok e) fun _ _ x h2 H2 => ⟨_, _, rfl, br_false rfl ?_⟩⟩
  have H2 := H2.sel 2 [0]
  refine law16_awake.J1_of (br_false rfl ?_)
  have a1 : ∀ {k : ByteArray}, mget (sec tA) ⟨#[97]⟩ = some k → k = ⟨#[107]⟩ := fun e => by rw [tA_a] at e; injection e with e; exact e.symm
  refine Issue_h t tA_ok (by omega) (by omega) H2 (fun e => by rw [tA_a] at e; cases e) (fun k h' e hb => absurd ⟨by omega, by omega⟩ hb) (fun k s h3 e _ hs H3 => ⟨_, _, rfl, ?_⟩)
  obtain rfl := a1 e
  refine Issue_h t tA_ok (by omega) (by omega) H3 (fun e h4 H4 => ⟨_, _, rfl, ?_⟩) (fun k h' e hb => by rw [tA_b] at e; cases e) (fun k s h3 e _ hs H3 => by rw [tA_b] at e; cases e)
  refine Issue_h t tA_ok (by omega) (by omega) H4 (fun e => by rw [tA_a] at e; cases e) (fun k h5 e hb H5 => ⟨_, _, rfl, ?_⟩) (fun k s h3 e hb => absurd hb (by omega))
  refine Issue_h t tA_ok (by omega) (by omega) H5 (fun e => by rw [tA_a] at e; cases e) (fun k h' e hb => absurd ⟨by omega, by omega⟩ hb) (fun k s2 h6 e _ hs2 H6 => ⟨_, _, rfl, ?_⟩)
  obtain rfl := a1 e
  obtain ⟨m, hm⟩ := has_mac ⟨⟨#[97]⟩, 9, 0 + 1⟩ ⟨#[107]⟩
  obtain ⟨m2, hm2⟩ := has_mac ⟨⟨#[97]⟩, 9, 0 + 1 + 1⟩ ⟨#[107]⟩
  have i1 := is_print (may_a (by omega)) hs hm
  have i2 := is_print (may_a (by omega)) hs2 hm2
  have sz1 := i1.sz
  have sz2 := i2.sz
  have c1 : chkF tA [] s 9 = (⟨⟨#[97]⟩, 9, 1⟩, 0) := by rw [chkF, prs_yes i1]; simp only [tA_a, hm, if_true]; rfl
  have c2 : chkF tA [] s 10 = (Clm.none, 162) := by rw [chkF, prs_yes i1]; simp only [tA_a, hm, if_true]; rfl
  have c3 : chkF tA ([] ++ [1]) s 9 = (Clm.none, 163) := by rw [chkF, prs_yes i1]; simp only [tA_a, hm, if_true]; rfl
  refine Check_h (now := 9) t tA_ok (by omega) H6 fun h7 H7 => ?_
  rw [c1]
  refine ⟨_, _, _, _, rfl, Hs.wrs (xs := Clm.none.l) (H7.new (xs := Clm.none.l)) fun h8 H8 => ?_⟩
  have H8 : Hs h8 (pt h7.size T_api_Claim (Clm.mk ⟨#[97]⟩ 9 1).l :: BkA x tA (0 + 1 + 1) [] :: L) := H8
  generalize h7.size = y1 at *
  refine Check_h (now := 10) (L := pt y1 T_api_Claim (Clm.mk ⟨#[97]⟩ 9 1).l :: L) t.cons tA_ok (by omega) H8.m1 fun h9 H9 => ?_
  rw [c2]
  refine ⟨_, _, _, _, rfl, Hs.wrs (xs := Clm.none.l) (H9.new (xs := Clm.none.l)) fun h10 H10 => ?_⟩
  have H10 : Hs h10 (BkA x tA (0 + 1 + 1) [] :: pt y1 T_api_Claim (Clm.mk ⟨#[97]⟩ 9 1).l :: L) := H10.tl
  refine TParse_h t.cons.cons (by omega) H10 (fun c mm h11 k H11 => ⟨_, _, _, _, _, rfl, ?_⟩) (fun k => absurd i2 (k _ _))
  obtain ⟨rfl, rfl⟩ := k.uniq i2
  refine Hs.wrs (xs := Clm.none.l) (H11.new (xs := Clm.none.l)) fun h12 H12 => ?_
  have H12 : Hs h12 (pt h11.size T_api_Claim (Clm.mk ⟨#[97]⟩ 9 2).l :: BkA x tA (0 + 1 + 1) [] :: pt y1 T_api_Claim (Clm.mk ⟨#[97]⟩ 9 1).l :: L) := H12
  generalize h11.size = y2 at *
  refine br_true rfl (br_true rfl (br_true rfl (br_true rfl (br_true rfl (br_true rfl ?_)))))
  refine law16_awake.J2_of (Revoke_h (H12.sel 3 [1, 0, 2]) (fun hb => absurd (by omega) hb) fun _ h13 H13 => ⟨_, rfl, ?_⟩)
  refine Check_h (now := 9) t.cons.cons tA_ok (by omega) H13 fun h14 H14 => ?_
  rw [c3]
  refine ⟨_, _, _, _, rfl, Hs.wrs (xs := Clm.none.l) (H14.new (xs := Clm.none.l)) fun h15 H15 => ?_⟩
  have H15 : Hs h15 (pt y2 T_api_Claim (Clm.mk ⟨#[97]⟩ 9 2).l :: pt y1 T_api_Claim (Clm.mk ⟨#[97]⟩ 9 1).l :: L) := H15.tl.tl
  refine br_true rfl ⟨_, _, _, H15.m1.rdc0, br_true rfl ⟨_, _, _, H15.rdc0, br_true rfl (br_true ?_ (br_true rfl (kk h15 H15.tl.tl)))⟩⟩
  rw [i2.ml]; rfl
theorem TokenPrints_spec {c : Clm} {secret : ByteArray} (tab : TTab h) (HQ : ∀ h', ExtB h.size h h' → Q (.bool true) h') : SpecH PP F_law16_TokenPrints [c.v, .string secret] h Q := by
  have t : TTabL [ro h] := TTabL.ro tab
  have H := Hs.start h
  have fin : ∀ h', Hs h' [ro h] → Q (.bool true) h' := fun h' H' => HQ h' H'.ro_below
  refine law16_TokenPrints.door ?_
  dsimp only
  have P := H.new (t := T_api_Claim) (cs := #[(.string c.t), (.int .i64 c.u), (.int .i64 c.s)]) (xs := c.l)
  have big : ∀ {h' : Heap}, Hs h' (pt h.size T_api_Claim c.l :: [ro h]) → law16_TokenPrints.J1 secret ⟨h.size, 0, none⟩ true Q h' := fun H' => law16_TokenPrints.J1_of (br_true rfl (awake_h t.cons H' fun h2 H2 => ⟨_, rfl, fin h2 H2.tl⟩))
  refine ⟨_, P.cell (off := 0) rfl, (br_iff _ _ _).2 ⟨fun _ => big P, fun b1 => ?_⟩⟩
  by_cases b2 : secret.size ≤ 1048576
  case neg => rw [decide_eq_true (by omega)]; exact big P
  rw [decide_eq_false (by omega)]
  have nx : ∀ (s : ByteArray) (e : Int) {h' : Heap}, Hs h' (pt h.size T_api_Claim c.l :: [ro h]) → SpecH PP F_law16_awake [] h' (fun v_3 h4 => ∃ (t31 : Bool), v_3 = (.bool t31) ∧ br t31 (br (decide (s = s)) (Q (.bool (e == e)) h4) (Q (.bool false) h4)) (Q (.bool false) h4)) := fun s e {h'} H' =>
    awake_h t.cons H' fun h2 H2 => ⟨_, rfl, br_true rfl (br_true (decide_eq_true rfl) (by rw [beq_self_eq_true]; exact fin h2 H2.tl))⟩
  refine law16_TokenPrints.J1_of (br_false rfl ⟨_, _, _, P.rdc0, ?_⟩)
  by_cases ok : okP c secret = true
  · refine Print_h (c := c) t.cons P (fun e => by rw [ok] at e; cases e) (fun _ s h2 hs H2 => ⟨_, _, rfl, _, _, _, H2.rdc0, ?_⟩)
    refine RPrint_h (c := c) H2 (fun e => by rw [ok] at e; cases e) (fun _ s' h3 hs' H3 => ⟨_, _, rfl, ?_⟩)
    obtain rfl : s = s' := sb_inj (hs.trans hs'.symm)
    exact nx s 0 H3
  · have ok : okP c secret = false := by simpa using ok
    refine Print_h (c := c) t.cons P (fun _ h2 H2 => ⟨_, _, rfl, _, _, _, H2.rdc0, ?_⟩) (fun e => by rw [ok] at e; cases e)
    refine RPrint_h (c := c) H2 (fun _ h3 H3 => ⟨_, _, rfl, ?_⟩) (fun e => by rw [ok] at e; cases e)
    exact nx _ 1 H3
theorem TokenParses_spec {s : ByteArray} (tab : TTab h) (HQ : ∀ h', ExtB h.size h h' → Q (.bool true) h') : SpecH PP F_law16_TokenParses [.string s] h Q := by
  have t : TTabL [ro h] := TTabL.ro tab
  have H := Hs.start h
  have fin : ∀ h', Hs h' [ro h] → Q (.bool true) h' := fun h' H' => HQ h' H'.ro_below
  refine law16_TokenParses.door ((br_iff _ _ _).2 ⟨fun _ => awake_h t H fun h2 H2 => ⟨_, rfl, fin h2 H2⟩, fun b1 => ?_⟩)
  have b1 := of_decide_eq_false b1
  have same : ∀ (c : Clm) (m : ByteArray) (e : Int) (x y : Nat) {h' : Heap}, Hs h' (pt y T_api_Claim c.l :: pt x T_api_Claim c.l :: [ro h]) → SpecH PP F_law16_awake [] h' (fun v_3 h8 => ∃ (t25 : Bool), v_3 = (.bool t25) ∧
      br t25 (∃ (t27f0 : ByteArray) (t27f1 t27f2 : Int), rdCells h8 ⟨x, 0, none⟩ 0 [(.string t27f0), (.int .i64 t27f1), (.int .i64 t27f2)] ∧ ∃ (t28f0 : ByteArray) (t28f1 t28f2 : Int), rdCells h8 ⟨y, 0, none⟩ 0 [(.string t28f0), (.int .i64 t28f1), (.int .i64 t28f2)] ∧
        br (decide (t27f0 = t28f0) && ((t27f1 == t28f1) && ((t27f2 == t28f2) && true))) (br (decide (m = m)) (Q (.bool (e == e)) h8) (Q (.bool false) h8)) (Q (.bool false) h8)) (Q (.bool false) h8)) := fun c m e x y {h'} H' =>
    awake_h t.cons.cons H' fun h2 H2 => ⟨_, rfl, br_true rfl ⟨_, _, _, H2.m1.rdc0, _, _, _, H2.rdc0, br_true (by simp) (br_true (decide_eq_true rfl) (by rw [beq_self_eq_true]; exact fin h2 H2.tl.tl))⟩⟩
  by_cases ex : ∃ c m, IsT s c m
  · obtain ⟨c, m, k⟩ := ex
    refine TParse_h t (by omega) H (fun c' m' h2 k' H2 => ⟨_, _, _, _, _, rfl, ?_⟩) (fun e => absurd k (e _ _))
    obtain ⟨rfl, rfl⟩ := k'.uniq k
    refine Hs.wrs (xs := Clm.none.l) (H2.new (xs := Clm.none.l)) fun h3 H3 => ?_
    have H3 : Hs h3 (pt h2.size T_api_Claim c'.l :: [ro h]) := H3
    refine RParse_h (by omega) H3 (fun c2 m2 h4 k2 H4 => ⟨_, _, _, _, _, rfl, ?_⟩) (fun e => absurd k (e _ _))
    obtain ⟨rfl, rfl⟩ := k2.uniq k
    refine Hs.wrs (xs := Clm.none.l) (H4.new (xs := Clm.none.l)) fun h5 H5 => ?_
    exact same c2 m2 0 _ _ H5
  · have ex : ∀ c m, ¬ IsT s c m := fun c m k => ex ⟨c, m, k⟩
    refine TParse_h t (by omega) H (fun c' m' h2 k' H2 => absurd k' (ex _ _)) (fun _ h2 H2 => ⟨_, _, _, _, _, rfl, ?_⟩)
    refine Hs.wrs (xs := Clm.none.l) (H2.new (xs := Clm.none.l)) fun h3 H3 => ?_
    have H3 : Hs h3 (pt h2.size T_api_Claim Clm.none.l :: [ro h]) := H3
    refine RParse_h (by omega) H3 (fun c' m' h2 k' H2 => absurd k' (ex _ _)) (fun _ h4 H4 => ⟨_, _, _, _, _, rfl, ?_⟩)
    refine Hs.wrs (xs := Clm.none.l) (H4.new (xs := Clm.none.l)) fun h5 H5 => ?_
    exact same Clm.none ⟨#[]⟩ 160 _ _ H5
end Go.Proofs.YtahigbbfilalgaaGreatDoor

set_option linter.unusedVariables false
set_option linter.unusedSimpArgs false
set_option maxRecDepth 4000
namespace Go.Proofs.YtahigbbfilalgaaGreatDoor
open Go Go.HW Go.HW.Dec Go.HW.Spl
variable {h : Heap} {L : List Assn} {Q : Value → Heap → Prop}
structure OpT where
  k : Int
  n : Int
  w : Int
  t : ByteArray
  x : ByteArray
def OpT.l (o : OpT) : List Value := [.int .i64 o.k, .int .i64 o.n, .int .i64 o.w, .string o.t, .string o.x]
section
variable {ts : List Tn} {ops : List OpT} {sa : Option Addr} {sc xb xr : Nat} {K : EP}
/-- The state between two calls. -/
def RSt (xb xr : Nat) (ts : List Tn) (n : Int) (rv : List Int) (a : Option Addr) (c : Nat) (is : List ByteArray) : List Assn := [BkA xb ts n rv, RBk xr ts n rv, own a is.length c T_string 1 (strs is)]
structure RInv (i : Nat) (n : Int) (rv : List Int) (is : List ByteArray) : Prop where
  n0 : 0 ≤ n
  n1 : n ≤ i
  r : rv.length ≤ i
  l : is.length ≤ i
  s : ∀ s ∈ is, s.size ≤ 256
theorem runs_loop (t : TTabL L) (ok : okN ts) (h8 : ts.length ≤ 8) (g : Gv L sa (ops.flatMap OpT.l)) (hm : ops.length ≤ 1000)
    (stop : ∀ h', Hs h' L → K .ret (law16_TokenRuns.Xret true) h') (fin : ∀ h', Hs h' L → K (.exit 0) law16_TokenRuns.X0 h') :
    ∀ (k i : Nat) (n : Int) (rv : List Int) (a : Option Addr) (c : Nat) (is : List ByteArray) {h : Heap}, i + k = ops.length → RInv i n rv is → Hs h (RSt xb xr ts n rv a c is ++ L) →
      law16_TokenRuns.L1 sa ops.length sc (some ⟨xb, 0, none⟩) (some ⟨xr, 0, none⟩) a is.length c i K h := by
  intro k
  induction k with
  | zero =>
    intro i n rv a c is h hi I H
    exact law16_TokenRuns.L1_of (br_false (decide_eq_false (by omega)) (fin h H.tl.tl.tl))
  | succ k ih =>
    intro i n rv a c is h hi I H
    have hl : i < ops.length := by omega
    have H0 : Hs h (BkA xb ts n rv :: RBk xr ts n rv :: own a is.length c T_string 1 (strs is) :: L) := H
    refine law16_TokenRuns.L1_of (br_true (decide_eq_true (by omega)) (idxf E_sl_haversacklaw16_Op (x := ops[i]) (g _ H0.tl.tl.tl) (fun _ => rfl) (by omega) (by omega) (by omega) (by rw [Int.toNat_natCast]; exact List.getElem?_eq_getElem hl) fun p hp => ⟨_, _, _, _, _, hp, ?_⟩))
    generalize ops[i] = o at *
    have P := H0.new (t := T_haversacklaw16_Op) (cs := #[(.int .i64 0), (.int .i64 0), (.int .i64 0), (.string (⟨#[]⟩ : ByteArray)), (.string (⟨#[]⟩ : ByteArray))]) (xs := (OpT.mk 0 0 0 ⟨#[]⟩ ⟨#[]⟩).l)
    refine Hs.wrs (xs := (OpT.mk 0 0 0 ⟨#[]⟩ ⟨#[]⟩).l) P (fun h1 H1 => ?_)
    have H1 : Hs h1 (pt h.size T_haversacklaw16_Op o.l :: BkA xb ts n rv :: RBk xr ts n rv :: own a is.length c T_string 1 (strs is) :: L) := H1
    generalize h.size = y at *
    -- the next round
    have next : ∀ {n' : Int} {rv' : List Int} {a' : Option Addr} {c' : Nat} {is' : List ByteArray} {h' : Heap}, RInv (i + 1) n' rv' is' → Hs h' (BkA xb ts n' rv' :: RBk xr ts n' rv' :: own a' is'.length c' T_string 1 (strs is') :: L) →
        law16_TokenRuns.J7 sa ops.length sc (some ⟨xb, 0, none⟩) (some ⟨xr, 0, none⟩) a' is'.length c' i K h' := fun I' H' => by
      refine law16_TokenRuns.J7_of ?_
      dsimp only
      rw [inc (by omega)]
      exact ih (i + 1) _ _ _ _ _ (by omega) I' H'
    have I1 : RInv (i + 1) n rv is := ⟨I.n0, by have := I.n1; omega, by have := I.r; omega, by have := I.l; omega, I.s⟩
    have big : ∀ {h' : Heap}, Hs h' (pt y T_haversacklaw16_Op o.l :: BkA xb ts n rv :: RBk xr ts n rv :: own a is.length c T_string 1 (strs is) :: L) → law16_TokenRuns.J3 sa ops.length sc (some ⟨xb, 0, none⟩) (some ⟨xr, 0, none⟩) a is.length c i ⟨y, 0, none⟩ true K h' := fun H' =>
      law16_TokenRuns.J3_of (br_true rfl (awake_h t H'.tl.tl.tl.tl fun h2 H2 => ⟨_, rfl, stop h2 H2⟩))
    refine ⟨_, H1.cell (off := 3) rfl, (br_iff _ _ _).2 ⟨fun _ => big H1, fun b1 => ⟨_, H1.cell (off := 4) rfl, ?_⟩⟩⟩
    have b1 := of_decide_eq_false b1
    by_cases b2 : o.x.size ≤ 1048576
    case neg => dsimp only; rw [decide_eq_true (by omega)]; exact big H1
    dsimp only
    rw [decide_eq_false (by omega)]
    have hn1 : n < 1000000000 := by have := I.n1; omega
    refine law16_TokenRuns.J3_of (br_false rfl ⟨_, H1.cell (off := 0) rfl, (br_iff _ _ _).2 ⟨fun k1 => ?_, fun k1 => (br_iff _ _ _).2 ⟨fun k2 => ?_, fun k2 => ?_⟩⟩⟩)
    · -- Issue
      refine ⟨_, H1.cell (off := 3) rfl, _, H1.cell (off := 1) rfl, ?_⟩
      have same : ∀ {n' : Int} {s : ByteArray} {e : Int} {h' : Heap}, (e = 0 → s.size ≤ 256) → 0 ≤ n' → n' ≤ (i + 1 : Nat) → Hs h' (RBk xr ts n' rv :: BkA xb ts n' rv :: pt y T_haversacklaw16_Op o.l :: own a is.length c T_string 1 (strs is) :: L) →
          br (!decide (s = s)) (law16_TokenRuns.J4 sa ops.length sc (some ⟨xb, 0, none⟩) (some ⟨xr, 0, none⟩) a is.length c i s e true K h') (law16_TokenRuns.J4 sa ops.length sc (some ⟨xb, 0, none⟩) (some ⟨xr, 0, none⟩) a is.length c i s e (e != e) K h') := fun {n' s e h'} hs p0 p1 H' => by
        refine br_false (by simp) ?_
        rw [bne_self_eq_false]
        refine law16_TokenRuns.J4_of (br_false rfl ((br_iff _ _ _).2 ⟨fun q => ?_, fun q => ?_⟩))
        · have q : e = 0 := by simpa using q
          refine (H'.sel 4 [3, 0, 1]).app_vals E_sl_string (ys := [.string s]) rfl rfl (by simp [oneC]) (fun h3 a3 c3 H3 => ⟨_, _, _, rfl, ?_⟩) (by have := I.l; omega) (by have := I.l; omega)
          have e1 : is.length + 1 = (is ++ [s]).length := by simp
          have e2 : strs is ++ [Value.string s] = strs (is ++ [s]) := by simp [strs]
          rw [e1]
          refine next ⟨p0, p1, I1.r, by simp; have := I.l; omega, fun u hu => ?_⟩ ?_
          · rcases List.mem_append.1 hu with hu | hu
            · exact I.s u hu
            · simp at hu; rw [hu]; exact hs q
          · have H3' : Hs h3 (own a3 (is ++ [s]).length c3 T_string 1 (strs (is ++ [s])) :: RBk xr ts n' rv :: BkA xb ts n' rv :: L) := by rw [← e1, ← e2]; exact H3
            exact H3'.sel 3 [2, 1, 0]
        · exact next ⟨p0, p1, I1.r, I1.l, I1.s⟩ (H'.sel 4 [1, 0, 3])
      refine Issue_h (L := pt y T_haversacklaw16_Op o.l :: RBk xr ts n rv :: own a is.length c T_string 1 (strs is) :: L) t.cons.cons.cons ok I.n0 hn1 H1.m1 (fun hg h2 H2 => ⟨_, _, rfl, ?_⟩) (fun sk h2 hg hb H2 => ⟨_, _, rfl, ?_⟩) (fun sk s h2 hg hu hs H2 => ⟨_, _, rfl, ?_⟩)
      · refine ⟨_, H2.m1.cell (off := 3) rfl, _, H2.m1.cell (off := 1) rfl, ?_⟩
        refine RIssue_h ok h8 I.n0 hn1 (H2.sel 4 [2, 0, 1, 3]) (fun hg' h3 H3 => ⟨_, _, rfl, same (fun e => by omega) I.n0 I1.n1 H3⟩) (fun sk h3 hg' => by rw [hg] at hg'; cases hg') (fun sk s h3 hg' => by rw [hg] at hg'; cases hg')
      · refine ⟨_, H2.m1.cell (off := 3) rfl, _, H2.m1.cell (off := 1) rfl, ?_⟩
        refine RIssue_h ok h8 I.n0 hn1 (H2.sel 4 [2, 0, 1, 3]) (fun hg' => by rw [hg] at hg'; cases hg') (fun sk h3 hg' _ H3 => ⟨_, _, rfl, same (fun e => by omega) I.n0 I1.n1 H3⟩) (fun sk s h3 hg' hu => absurd hu hb)
      · refine ⟨_, H2.m1.cell (off := 3) rfl, _, H2.m1.cell (off := 1) rfl, ?_⟩
        refine RIssue_h ok h8 I.n0 hn1 (H2.sel 4 [2, 0, 1, 3]) (fun hg' => by rw [hg] at hg'; cases hg') (fun sk h3 hg' hb => absurd hu hb) (fun sk' s' h3 hg' _ hs' H3 => ⟨_, _, rfl, ?_⟩)
        rw [hg] at hg'; cases hg'
        obtain rfl : s = s' := sb_inj (hs.trans hs'.symm)
        have s1 := (sec_ok ok hg).1
        have may : mayB ⟨o.t, o.n, n + 1⟩ = true := (mayB_iff _).2 ⟨s1, hu.1, hu.2, by simp only; have := I.n0; omega, by simp only; omega⟩
        have H3' : Hs h3 (RBk xr ts (n + 1) rv :: BkA xb ts (n + 1) rv :: pt y T_haversacklaw16_Op o.l :: own a is.length c T_string 1 (strs is) :: L) := H3
        refine same (fun _ => ?_) (by have := I.n0; omega) (by have := I.n1; omega) H3'
        have := printL_len may sk
        rw [← sb_len, hs]; omega
    · -- Revoke
      have H2 : Hs h1 (BkA xb ts n rv :: pt y T_haversacklaw16_Op o.l :: RBk xr ts n rv :: own a is.length c T_string 1 (strs is) :: L) := H1.m1
      have both : SpecH PP F_token_Book_Revoke [.pointer (some ⟨xb, 0, none⟩), .int .i64 o.n] h1 (fun v h2 => ∃ (e : Int) (rv' : List Int), v = .int .i64 e ∧ RInv (i + 1) n rv' is ∧ ((e = 1 ∧ rv' = rv ∧ ¬ (1 ≤ o.n ∧ o.n ≤ 1000000000)) ∨ (e = 0 ∧ rv' = rv ++ [o.n] ∧ (1 ≤ o.n ∧ o.n ≤ 1000000000))) ∧ Hs h2 (BkA xb ts n rv' :: pt y T_haversacklaw16_Op o.l :: RBk xr ts n rv :: own a is.length c T_string 1 (strs is) :: L)) :=
        Revoke_h H2 (fun hb h2 H' => ⟨1, rv, rfl, I1, .inl ⟨rfl, rfl, hb⟩, H'⟩) (fun hb h2 H' => ⟨0, rv ++ [o.n], rfl, ⟨I1.n0, I1.n1, by simp; exact I.r, I1.l, I1.s⟩, .inr ⟨rfl, rfl, hb⟩, H'⟩)
      have rest : ∀ {e : Int} {rv' : List Int} {h2 : Heap}, RInv (i + 1) n rv' is → ((e = 1 ∧ rv' = rv ∧ ¬ (1 ≤ o.n ∧ o.n ≤ 1000000000)) ∨ (e = 0 ∧ rv' = rv ++ [o.n] ∧ (1 ≤ o.n ∧ o.n ≤ 1000000000))) → Hs h2 (BkA xb ts n rv' :: pt y T_haversacklaw16_Op o.l :: RBk xr ts n rv :: own a is.length c T_string 1 (strs is) :: L) →
          SpecH PP F_ref16_Book_Revoke [.pointer (some ⟨xr, 0, none⟩), .int .i64 o.n] h2 (fun v_6 h7 => ∃ (t170_1 : Int), v_6 = (.int .i64 t170_1) ∧ law16_TokenRuns.J5 sa ops.length sc (some ⟨xb, 0, none⟩) (some ⟨xr, 0, none⟩) a is.length c i (e != t170_1) K h7) := fun {e rv' h2} I' hc H' => by
        have hr : rv.length < 2 ^ 20 := by have := I.r; omega
        refine RRevoke_h hr (H'.sel 4 [2, 0, 1, 3]) (fun hb h3 H3 => ⟨_, rfl, ?_⟩) (fun hb h3 H3 => ⟨_, rfl, ?_⟩)
        · rcases hc with ⟨rfl, rfl, _⟩ | ⟨_, _, hb'⟩
          · exact law16_TokenRuns.J5_of (br_false rfl (next I' (H3.sel 4 [1, 0, 3])))
          · exact absurd hb' hb
        · rcases hc with ⟨_, _, hb'⟩ | ⟨rfl, rfl, _⟩
          · exact absurd hb hb'
          · exact law16_TokenRuns.J5_of (br_false rfl (next I' (H3.sel 4 [1, 0, 3])))
      refine ⟨_, H1.cell (off := 1) rfl, ?_, ⟨_, H1.cell (off := 1) rfl, ?_⟩, trivial⟩
      · refine both.mono ?_
        rintro v h2 ⟨e, rv', rfl, I', hc, H'⟩
        exact ⟨_, rfl, _, H'.m1.cell (off := 1) rfl, rest I' hc H'⟩
      · refine both.mono ?_
        rintro v h2 ⟨e, rv', rfl, I', hc, H'⟩
        exact ⟨_, rfl, rest I' hc H'⟩
    · -- Check
      have chk : ∀ {x : ByteArray} {h' : Heap}, x.size ≤ 2 ^ 20 → Hs h' (pt y T_haversacklaw16_Op o.l :: BkA xb ts n rv :: RBk xr ts n rv :: own a is.length c T_string 1 (strs is) :: L) → law16_TokenRuns.J8 sa ops.length sc (some ⟨xb, 0, none⟩) (some ⟨xr, 0, none⟩) a is.length c i ⟨y, 0, none⟩ x K h' := fun {x h'} hx' H' => by
        have hr : rv.length < 2 ^ 20 := by have := I.r; omega
        obtain ⟨⟨rc, re⟩, er⟩ : ∃ r, chkF ts rv x o.n = r := ⟨_, rfl⟩
        refine law16_TokenRuns.J8_of ⟨_, H'.cell (off := 1) rfl, Check_h (L := pt y T_haversacklaw16_Op o.l :: RBk xr ts n rv :: own a is.length c T_string 1 (strs is) :: L) t.cons.cons.cons ok hx' H'.m1 fun h2 H2 => ?_⟩
        rw [er]
        refine ⟨_, _, _, _, rfl, Hs.wrs (xs := Clm.none.l) (H2.new (xs := Clm.none.l)) fun h3 H3 => ?_⟩
        have H3 : Hs h3 (pt h2.size T_api_Claim rc.l :: BkA xb ts n rv :: pt y T_haversacklaw16_Op o.l :: RBk xr ts n rv :: own a is.length c T_string 1 (strs is) :: L) := H3
        generalize h2.size = z at *
        refine ⟨_, (H3.sel 5 [2]).cell (off := 1) rfl, RCheck_h ok h8 hr hx' (H3.sel 5 [3, 0, 1, 2, 4]) fun h4 H4 => ?_⟩
        rw [er]
        refine ⟨_, _, _, _, rfl, Hs.wrs (xs := Clm.none.l) (H4.new (xs := Clm.none.l)) fun h5 H5 => ?_⟩
        have H5 : Hs h5 (pt h4.size T_api_Claim rc.l :: RBk xr ts n rv :: pt z T_api_Claim rc.l :: BkA xb ts n rv :: pt y T_haversacklaw16_Op o.l :: own a is.length c T_string 1 (strs is) :: L) := H5
        refine ⟨_, _, _, (H5.sel 6 [2]).rdc0, _, _, _, H5.rdc0, br_false (by simp) ?_⟩
        rw [bne_self_eq_false]
        exact law16_TokenRuns.J9_of (br_false rfl (next I1 (H5.sel 6 [3, 1, 5])))
      have j6 : ∀ {b : Bool} {h' : Heap}, (b = true → 0 ≤ o.w ∧ o.w < is.length) → Hs h' (pt y T_haversacklaw16_Op o.l :: BkA xb ts n rv :: RBk xr ts n rv :: own a is.length c T_string 1 (strs is) :: L) → law16_TokenRuns.J6 sa ops.length sc (some ⟨xb, 0, none⟩) (some ⟨xr, 0, none⟩) a is.length c i ⟨y, 0, none⟩ o.x b K h' := fun {b h'} hb H' => by
        refine law16_TokenRuns.J6_of ((br_iff _ _ _).2 ⟨fun q => ?_, fun q => chk (by omega) H'⟩)
        obtain ⟨w0, w1⟩ := hb q
        have hw : o.w.toNat < is.length := by omega
        refine ⟨_, H'.cell (off := 2) rfl, idx E_sl_string (v := .string is[o.w.toNat]) ((H'.sel 4 [3]).rd) w0 w1 (by simp [strs, hw]) fun p hp => ⟨_, hp, chk ?_ H'⟩⟩
        have := I.s _ (List.getElem_mem hw)
        omega
      have no : ∀ {h' : Heap}, Hs h' (pt y T_haversacklaw16_Op o.l :: BkA xb ts n rv :: RBk xr ts n rv :: own a is.length c T_string 1 (strs is) :: L) → law16_TokenRuns.J6 sa ops.length sc (some ⟨xb, 0, none⟩) (some ⟨xr, 0, none⟩) a is.length c i ⟨y, 0, none⟩ o.x false K h' := fun H' => j6 (fun e => by cases e) H'
      refine ⟨_, H1.cell (off := 4) rfl, (br_iff _ _ _).2 ⟨fun q1 => ?_, fun q1 => no H1⟩⟩
      have q1 := of_decide_eq_true q1
      refine hwp_sidx (i := 0) (by kernel_rfl) (by omega) ⟨_, rfl, (br_iff _ _ _).2 ⟨fun q2 => ⟨_, H1.cell (off := 2) rfl, (br_iff _ _ _).2 ⟨fun q3 => ⟨_, H1.cell (off := 2) rfl, j6 (fun q4 => ?_) H1⟩, fun q3 => no H1⟩⟩, fun q2 => no H1⟩⟩
      exact ⟨of_decide_eq_true q3, of_decide_eq_true q4⟩
theorem light_loop {xa : Option Addr} {xc : Nat} (g : Gv L xa (ts.flatMap Tn.l)) (hm : ts.length ≤ 1000) (fin : ∀ b h', Hs h' L → Q (.bool b) h') :
    ∀ (k i : Nat) {h : Heap}, i + k = ts.length → Hs h L → law16_light.L1 xa ts.length xc i (law16_light.K1 Q) h := by
  intro k
  induction k with
  | zero => intro i h hi H; exact law16_light.L1_of (br_false (decide_eq_false (by omega)) (law16_light.L1_X0 (fin true h H)))
  | succ k ih =>
    intro i h hi H
    have hl : i < ts.length := by omega
    have E : ∀ {R : Addr → Heap → Prop}, (∀ t, cellH h t = some (.string ts[i].n) → cellH h (t.add 1) = some (.string ts[i].s) → R t h) → hwp PP (Instr.indexAt T_sl_api_Tenant (.slice xa ts.length xc) (.int .i64 (i : Int))) (fun u h1 => ∃ t, u = .pointer (some t) ∧ R t h1) h := fun r =>
      tn_at g H hl fun t ht => r t (rd_l ht).1 (rd_l ht).2.1
    have j1 : ∀ b : Bool, law16_light.J1 xa ts.length xc i b (law16_light.K1 Q) h := fun b => law16_light.J1_of ((br_iff _ _ _).2 ⟨fun _ => law16_light.L1_Xret (fin false h H), fun _ => by
      dsimp only
      rw [inc (by omega)]
      exact ih (i + 1) (by omega) H⟩)
    exact law16_light.L1_of (br_true (decide_eq_true (by omega)) (E fun t c1 c2 => ⟨_, c1, (br_iff _ _ _).2 ⟨fun _ => j1 _, fun _ => E fun t c1 c2 => ⟨_, c2, j1 _⟩⟩⟩))
theorem light_h {xa : Option Addr} {xc : Nat} (g : Gv L xa (ts.flatMap Tn.l)) (H : Hs h L) (fin : ∀ b h', Hs h' L → Q (.bool b) h') : SpecH PP F_law16_light [.slice xa ts.length xc] h Q := by
  refine law16_light.door ((br_iff _ _ _).2 ⟨fun _ => fin false h H, fun b => ?_⟩)
  have b := of_decide_eq_false b
  exact light_loop g (by omega) fin ts.length 0 (by omega) H
end
theorem TokenRuns_spec {ts : List Tn} {ops : List OpT} {xa sa : Option Addr} {xn xc sn sc : Nat} (tab : TTab h) (hx : Rd h xa (ts.flatMap Tn.l)) (hxn : ts.length = xn) (hx0 : xa = none → xn = 0) (hs : Rd h sa (ops.flatMap OpT.l)) (hsn : ops.length = sn)
    (HQ : ∀ h', ExtB h.size h h' → Q (.bool true) h') : SpecH PP F_law16_TokenRuns [.slice xa xn xc, .slice sa sn sc] h Q := by
  subst hxn hsn
  have t : TTabL [ro h] := TTabL.ro tab
  have H := Hs.start h
  have fin : ∀ h', Hs h' [ro h] → Q (.bool true) h' := fun h' H' => HQ h' H'.ro_below
  have gx : Gv [ro h] xa (ts.flatMap Tn.l) := Gv.ro hx
  have gs : Gv [ro h] sa (ops.flatMap OpT.l) := Gv.ro hs
  have aw : ∀ h', Hs h' [ro h] → SpecH PP F_law16_awake [] h' (fun v h1 => ∃ b : Bool, v = .bool b ∧ Q (.bool b) h1) := fun h' H' => awake_h t H' fun h2 H2 => ⟨_, rfl, fin h2 H2⟩
  refine law16_TokenRuns.door (light_h gx H fun b h1 H1 => ⟨_, rfl, ?_⟩)
  have j1 : ops.length ≤ 1000 → law16_TokenRuns.J1 xa ts.length xc sa ops.length sc false Q h1 := fun hm => law16_TokenRuns.J1_of (br_false rfl (by
    refine New_h gx rfl H1 (fun e h2 H2 => ⟨_, _, rfl, ?_⟩) (fun e1 e2 h2 H2 => ⟨_, _, rfl, ?_⟩) (fun e1 e2 xb h2 H2 => ⟨_, _, rfl, ?_⟩)
    · refine RNew_h gx rfl hx0 H2 (fun _ h3 H3 => ⟨_, _, rfl, ?_⟩) (fun e1 _ h3 H3 => by omega) (fun e1 _ x h3 H3 => by omega)
      exact br_false rfl (law16_TokenRuns.J2_of (br_false rfl (br_true rfl (aw h3 H3))))
    · refine RNew_h gx rfl hx0 H2 (fun _ h3 H3 => by omega) (fun _ _ h3 H3 => ⟨_, _, rfl, ?_⟩) (fun _ o x h3 H3 => absurd o e2)
      exact br_false rfl (law16_TokenRuns.J2_of (br_false rfl (br_true rfl (aw h3 H3))))
    · refine RNew_h gx.cons rfl hx0 H2 (fun _ h3 H3 => by omega) (fun _ o h3 H3 => absurd e2 o) (fun _ _ xr h3 H3 => ⟨_, _, rfl, ?_⟩)
      refine br_false rfl (law16_TokenRuns.J2_of (br_false rfl (br_false rfl ?_)))
      have H4 := (H3.m1.own_nil T_string 1).sel 3 [1, 2, 0]
      exact runs_loop (L := [ro h]) t e2 e1 gs hm (fun h4 H4 => law16_TokenRuns.L1_Xret (fin h4 H4)) (fun h4 H4 => law16_TokenRuns.L1_X0 (aw h4 H4)) ops.length 0 0 [] none 0 [] (by omega) ⟨by omega, by omega, by simp, by simp, by simp⟩ H4))
  have j0 : law16_TokenRuns.J1 xa ts.length xc sa ops.length sc true Q h1 := law16_TokenRuns.J1_of (br_true rfl (aw h1 H1))
  refine (br_iff _ _ _).2 ⟨fun _ => j0, fun _ => ?_⟩
  by_cases hm : ops.length ≤ 1000
  · dsimp only; rw [decide_eq_false (by omega)]; exact j1 hm
  · dsimp only; rw [decide_eq_true (by omega)]; exact j0
theorem open_op {W : World} {ecs : List Value} (hl : ecs.length = 5) (g : Dat PP W T_haversacklaw16_Op ecs) : ∃ x, ecs = OpT.l x ∧ True := by
  match ecs, hl with
  | [a, b, c, d, e], _ =>
    have f := g.fields
    rw [FL_haversacklaw16_Op] at f
    obtain ⟨k, e1, _⟩ := (f (T_int, 0, 1) (by simp)).i64 U_int
    obtain ⟨v, e2, _⟩ := (f (T_int, 1, 1) (by simp)).i64 U_int
    obtain ⟨w, e3, _⟩ := (f (T_int, 2, 1) (by simp)).i64 U_int
    obtain ⟨s, e4, _⟩ := (f (T_string, 3, 1) (by simp)).str U_string
    obtain ⟨u, e5, _⟩ := (f (T_string, 4, 1) (by simp)).str U_string
    simp at e1 e2 e3 e4 e5
    exact ⟨⟨k, v, w, s, u⟩, by rw [e1, e2, e3, e4, e5]; rfl, trivial⟩
end Go.Proofs.YtahigbbfilalgaaGreatDoor

set_option linter.unusedVariables false
set_option linter.unusedSimpArgs false
set_option maxRecDepth 100000
namespace Go.Proofs.YtahigbbfilalgaaGreatDoor
open Go Go.HW
theorem open_cl {W : World} {ecs : List Value} (hl : ecs.length = 3) (g : Dat PP W T_api_Claim ecs) : ∃ x, ecs = Clm.l x ∧ True := by
  match ecs, hl with
  | [a, b, c], _ =>
    have f := g.fields
    rw [FL_api_Claim] at f
    obtain ⟨k, e1, _⟩ := (f (T_string, 0, 1) (by simp)).str U_string
    obtain ⟨v, e2, _⟩ := (f (T_int, 1, 1) (by simp)).i64 U_int
    obtain ⟨w, e3, _⟩ := (f (T_int, 2, 1) (by simp)).i64 U_int
    simp at e1 e2 e3
    exact ⟨⟨k, v, w⟩, by rw [e1, e2, e3]; rfl, trivial⟩
theorem open_tn {W : World} {ecs : List Value} (hl : ecs.length = 4) (g : Dat PP W T_api_Tenant ecs) : ∃ x, ecs = Tn.l x ∧ True := by
  match ecs, hl with
  | [a, b, c, d], _ =>
    have f := g.fields
    rw [FL_api_Tenant] at f
    obtain ⟨k, e1, _⟩ := (f (T_string, 0, 1) (by simp)).str U_string
    obtain ⟨k2, e2, _⟩ := (f (T_string, 1, 1) (by simp)).str U_string
    obtain ⟨v, e3, _⟩ := (f (T_int, 2, 1) (by simp)).i64 U_int
    obtain ⟨w, e4, _⟩ := (f (T_int, 3, 1) (by simp)).i64 U_int
    simp at e1 e2 e3 e4
    exact ⟨⟨k, k2, v, w⟩, by rw [e1, e2, e3, e4]; rfl, trivial⟩
theorem laid_one {P : Program} {l : List (String × DataW Unit)} {W : World} (h : laidMetH P l W) (n : String) {d : DataW Unit} (e : (l.filter fun x => x.2.handleName?.isNone).filter (fun x => x.1 == n) = [(n, d)]) : laidMet P [(n, d)] W := by
  have := laidMet.filter (fun x => x.1 == n) ((laidMetH_iff.1 h).1)
  rwa [e] at this
theorem obj_of {W : World} {n : String} {cs : Array Value} {g : Nat} (hg : PP.globalNamed n = some g) (h : W.var? PP n = some cs) : ∃ t fz, W.heap[g]? = some (.cells cs t fz) := by
  unfold World.var? at h
  rw [hg, Option.bind_some] at h
  split at h
  · rename_i c t f e; injection h with h; subst h; exact ⟨_, _, e⟩
  · cases h
def kSteps : List Int := Sha.ks.map fun w => (w.toNat : Int)
/-- The row's own words, as what the proof reads. -/
theorem tab_of {W : World} (hk : laidMet PP [("haversack/hmac.k", Rows.laid_haversack_hmac_k)] W) (hp : laidMet PP [("internal/strconv.uint64pow10", Rows.laid_internal_strconv_uint64pow10)] W)
    (hs : laidMet PP [("strconv.ErrSyntax", Rows.laid_strconv_ErrSyntax)] W) (hr : laidMet PP [("strconv.ErrRange", Rows.laid_strconv_ErrRange)] W) : TTab W.heap := by
  have star : "*" ++ "errors.errorString" = "*errors.errorString" := by decide
  have row : ∀ u, PP.typeName? 3 u = some "*errors.errorString" → u = T_p_errors_errorString := fun u h =>
    typeName_ptr_named (nm := "errors.errorString") (by rw [star]; kernel_rfl) (by kernel_rfl) (by decide) u (by rw [star]; exact h)
  obtain ⟨f, uf, ft, fo⟩ := U_errs
  obtain ⟨ms, U_err⟩ : ∃ ms, PP.underlying T_error = some (.interface ms) := U_erri
  have uf : PP.underlying T_errors_errorString = some (.struct #[f]) := uf
  refine ⟨?_, ?_, ?_, ?_⟩
  · have t : Lib.TabIs PP W "haversack/hmac.k" .u32 kSteps := Lib.tabIs_of_head (rest := []) (by kernel_rfl : PP.globalNamed "haversack/hmac.k" = some G_hmac_k) (by kernel_rfl : _ = some T_64_uint32) (by kernel_rfl : PP.underlying T_64_uint32 = some (.array 64 T_uint32)) (by kernel_rfl : PP.underlying T_uint32 = some (.int .u32)) (by kernel_rfl) (by kernel_rfl) hk
    intro i hi
    have := t.cell (by kernel_rfl : PP.globalNamed "haversack/hmac.k" = some G_hmac_k) i (by simpa [kSteps, Sha.ks] using hi)
    rw [cell_w] at this
    refine this.trans ?_
    have e : ∀ i : Nat, i < 64 → kSteps.getD i 0 = ((Sha.ks.getD i 0).toNat : Int) := by decide
    exact congrArg (fun z => some (Value.int .u32 z)) (e i hi)
  · have t : Lib.TabIs PP W "internal/strconv.uint64pow10" .u64 Lib.pow10Tab := Lib.tabIs_of_head (rest := []) (by kernel_rfl : PP.globalNamed "internal/strconv.uint64pow10" = some G_internal_strconv_uint64pow10) (by kernel_rfl : _ = some T_20_uint64) (by kernel_rfl : PP.underlying T_20_uint64 = some (.array 20 T_uint64)) (by kernel_rfl : PP.underlying T_uint64 = some (.int .u64)) (by kernel_rfl) (by kernel_rfl) hp
    exact obj_of (by kernel_rfl) t
  · obtain ⟨a, s, hv, _⟩ := laid_sentinel (r := []) hs (by kernel_rfl : PP.globalNamed "strconv.ErrSyntax" = some G_strconv_ErrSyntax) (by kernel_rfl : (PP.globals[G_strconv_ErrSyntax]?).map (·.type) = some T_error) U_err row (by kernel_rfl : PP.underlying T_p_errors_errorString = some (.pointer T_errors_errorString)) uf (rfl : f.type = f.type) fo (by rw [ft]; kernel_rfl) (by kernel_rfl) (by rw [ft]; kernel_rfl)
    obtain ⟨t, fz, e⟩ := obj_of (by kernel_rfl : PP.globalNamed "strconv.ErrSyntax" = some G_strconv_ErrSyntax) hv
    exact ⟨_, _, t, fz, e⟩
  · obtain ⟨a, s, hv, _⟩ := laid_sentinel (r := []) hr (by kernel_rfl : PP.globalNamed "strconv.ErrRange" = some G_strconv_ErrRange) (by kernel_rfl : (PP.globals[G_strconv_ErrRange]?).map (·.type) = some T_error) U_err row (by kernel_rfl : PP.underlying T_p_errors_errorString = some (.pointer T_errors_errorString)) uf (rfl : f.type = f.type) fo (by rw [ft]; kernel_rfl) (by kernel_rfl) (by rw [ft]; kernel_rfl)
    obtain ⟨t, fz, e⟩ := obj_of (by kernel_rfl : PP.globalNamed "strconv.ErrRange" = some G_strconv_ErrRange) hv
    exact ⟨_, _, t, fz, e⟩
theorem tab_all {l : List (String × DataW Unit)} {W : World} (h : laidMetH PP l W)
    (e1 : (l.filter fun x => x.2.handleName?.isNone).filter (fun x => x.1 == "haversack/hmac.k") = [("haversack/hmac.k", Rows.laid_haversack_hmac_k)])
    (e2 : (l.filter fun x => x.2.handleName?.isNone).filter (fun x => x.1 == "internal/strconv.uint64pow10") = [("internal/strconv.uint64pow10", Rows.laid_internal_strconv_uint64pow10)])
    (e3 : (l.filter fun x => x.2.handleName?.isNone).filter (fun x => x.1 == "strconv.ErrSyntax") = [("strconv.ErrSyntax", Rows.laid_strconv_ErrSyntax)])
    (e4 : (l.filter fun x => x.2.handleName?.isNone).filter (fun x => x.1 == "strconv.ErrRange") = [("strconv.ErrRange", Rows.laid_strconv_ErrRange)]) : TTab W.heap :=
  tab_of (laid_one h _ e1) (laid_one h _ e2) (laid_one h _ e3) (laid_one h _ e4)
/-! ### A world in which all that is laid -/
def leafC : DataW Unit → List Value
  | .lit (.int k z) => [.int k z]
  | _ => []
def cellsD : DataW Unit → List Value
  | .agg l => l.flatMap fun
    | .agg m => m.flatMap leafC
    | d => leafC d
  | _ => []
def putC (g : Nat) (cs : List Value) (h : Heap) : Heap := h.modify g fun
  | .cells _ t f => .cells cs.toArray t f
  | o => o
end Go.Proofs.YtahigbbfilalgaaGreatDoor

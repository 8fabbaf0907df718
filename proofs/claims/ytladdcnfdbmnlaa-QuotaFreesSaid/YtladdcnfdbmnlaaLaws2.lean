/- The laws of quota: Frees. -/
import Derived.Test.YtladdcnfdbmnlaaLaws
set_option linter.unusedVariables false
set_option linter.unusedSimpArgs false
namespace Go.Proofs.Ytladdcnfdbmnlaa
open Go Go.HW
variable {h : Heap} {L : List Assn} {Q : Value → Heap → Prop}
theorem fnd_self {ts : List Ten} (hd : (ts.map (·.name)).Nodup) {k : Nat} (hk : k < ts.length) : fnd ts ts[k].name = some k := by
  refine fnd_pre (i := k + 1) ?_
  rw [fnd_take hd hk, if_pos rfl]
section
variable {p : Nat} {blks : List Nat} {a sa : Option Addr} {n c sn sc : Nat} {ts : List Ten} {ops : List Op} {M : List Assn} {s : QS} {nm : ByteArray} {m7 : Addr}
theorem frees_loop {r : Nat} {K : Ex → Fr → Heap → Prop} (hr : Gv M a (ts.flatMap tenV)) (hn : ts.length = n) (hmax : n ≤ 1000) (hs : Gv M sa (ops.flatMap opV)) (hsn : ops.length = sn) (hsm : sn ≤ 1000)
    (kk : ∀ h' s, Run ts sn s → Hs h' (Bk p blks s :: M) → K (.exit 0) (law17_QuotaFrees_X0 a n c nm m7 (some ⟨p, 0, none⟩)) h') :
    ∀ (d i : Nat) {h : Heap} {s : QS}, i + d = sn → Run ts i s → Hs h (Bk p blks s :: Rk r a n c s :: M) →
    law17_QuotaFrees_L11111010 a n c sa sn sc nm m7 (some ⟨p, 0, none⟩) (some ⟨r, 0, none⟩) i K h := by
  intro d
  induction d with
  | zero =>
    intro i h s hk R H
    obtain rfl : i = sn := by omega
    exact law17_QuotaFrees_L11111010_of (br_false (decide_eq_false (by omega)) (kk h s R H.m1.tl))
  | succ d ih =>
    intro i h s hk R H
    refine law17_QuotaFrees_L11111010_of (br_true (decide_eq_true (by omega)) ?_)
    refine idxf E_sl_haversacklaw17_Op (l := ops) (φ := opV) (x := ops[i]) (hs _ H.tl.tl) (fun _ => rfl) (by omega) (by omega) (by omega) (by simp) fun t ht => ⟨_, _, _, _, _, ht, ?_⟩
    refine step_spec (o := ops[i]) (R.tn hr hn (by omega) (by omega)) H fun h2 s2 g2 H2 => ⟨_, rfl, ?_⟩
    simp only [inc (show i < 2 ^ 62 by omega)]
    exact ih (i + 1) (by omega) (R.grow g2) H2
def lefts (s : QS) (k : Nat) : List (Int × Int) := (List.range k).map s.left
theorem ahead_loop {K : Ex → Fr → Heap → Prop} (hr : Gv M a (s.ts.flatMap tenV)) (hn : s.ts.length = n) (hmax : n ≤ 1000)
    (kk : ∀ h' aa ac, Hs h' (own aa n ac T_api_Use 2 ((lefts s n).flatMap useV) :: Bk p blks s :: M) → K (.exit 2) (law17_QuotaFrees_X2 a n c nm m7 (some ⟨p, 0, none⟩) aa n ac) h') :
    ∀ (d k : Nat) {h : Heap} {aa : Option Addr} {ac : Nat}, k + d = n → Hs h (own aa k ac T_api_Use 2 ((lefts s k).flatMap useV) :: Bk p blks s :: M) →
    law17_QuotaFrees_L1111111010 a n c nm m7 (some ⟨p, 0, none⟩) aa k ac k K h := by
  intro d
  induction d with
  | zero =>
    intro k h aa ac hk H
    obtain rfl : k = n := by omega
    exact law17_QuotaFrees_L1111111010_of (br_false (decide_eq_false (by omega)) (kk h aa ac H))
  | succ d ih =>
    intro k h aa ac hk H
    have q := Bk.qi H.m1
    have hkl : k < s.ts.length := by omega
    refine law17_QuotaFrees_L1111111010_of (br_true (decide_eq_true (by omega)) ?_)
    refine idxf E_sl_api_Tenant (l := s.ts) (φ := tenV) (x := s.ts[k]) (hr _ H.tl.tl) (fun _ => rfl) (by omega) (by omega) (by omega) (by simp) fun t ht => ⟨_, ht.1, ?_⟩
    refine Left_spec H.m1 fun h2 H2 => ?_
    rw [fnd_self q.names hkl]
    refine ⟨_, _, _, rfl, (H2.new (t := T_api_Use) (cs := #[.int .i64 0, .int .i64 0]) (xs := [.int .i64 0, .int .i64 0])).wrs fun h3 H3 => ⟨_, _, H3.rdc0, ?_⟩⟩
    have H4 := H3.new (t := T_api_Use) (cs := #[.int .i64 (s.left k).1, .int .i64 (s.left k).2]) (xs := [.int .i64 (s.left k).1, .int .i64 (s.left k).2])
    have rdx : Rd (h3.push (.cells #[.int .i64 (s.left k).1, .int .i64 (s.left k).2] T_api_Use (0, 0))) (some ⟨h3.size, 0, none⟩) [.int .i64 (s.left k).1, .int .i64 (s.left k).2] := H4.ptrd rfl
    refine (H4.m3).app_sl E_sl_api_Use rdx rfl (by simp) (by simp [oneC]) (fun h5 a5 c5 H5 => ⟨_, _, _, rfl, ?_⟩) (by omega) (by omega)
    simp only [inc (show k < 2 ^ 62 by omega)]
    have e : (lefts s (k + 1)).flatMap useV = (lefts s k).flatMap useV ++ [.int .i64 (s.left k).1, .int .i64 (s.left k).2] := by
      unfold lefts; rw [List.range_succ, List.map_append, List.flatMap_append]; simp [useV]
    refine ih (k + 1) (by omega) ?_
    rw [e]
    exact ((H5.r3).tl.tl).m1
theorem same_loop {K : Ex → Fr → Heap → Prop} {s' : QS} {aa : Option Addr} {ac : Nat} {xn : Int} (hr : Gv M a (s.ts.flatMap tenV)) (hn : s.ts.length = n) (hmax : n ≤ 1000) (hts : s'.ts = s.ts) (hl : ∀ k, s'.left k = s.left k)
    (kk : ∀ h', Hs h' (Bk p blks s' :: M) → K (.exit 4) (law17_QuotaFrees_X4 (some ⟨p, 0, none⟩) xn) h') :
    ∀ (d k : Nat) {h : Heap}, k + d = n → Hs h (own aa n ac T_api_Use 2 ((lefts s n).flatMap useV) :: Bk p blks s' :: M) →
    law17_QuotaFrees_L1111111111010 a n c (some ⟨p, 0, none⟩) aa n ac xn k K h := by
  intro d
  induction d with
  | zero =>
    intro k h hk H
    exact law17_QuotaFrees_L1111111111010_of (br_false (decide_eq_false (by omega)) (kk h H.tl))
  | succ d ih =>
    intro k h hk H
    have q := Bk.qi H.m1
    have hkl : k < s.ts.length := by omega
    refine law17_QuotaFrees_L1111111111010_of (br_true (decide_eq_true (by omega)) ?_)
    refine idxf E_sl_api_Tenant (l := s.ts) (φ := tenV) (x := s.ts[k]) (hr _ H.tl.tl) (fun _ => rfl) (by omega) (by omega) (by omega) (by simp) fun t ht => ⟨_, ht.1, ?_⟩
    refine Left_spec H.m1 fun h2 H2 => ?_
    rw [hts, fnd_self (hts ▸ q.names) hkl]
    refine ⟨_, _, _, rfl, (H2.new (t := T_api_Use) (cs := #[.int .i64 0, .int .i64 0]) (xs := [.int .i64 0, .int .i64 0])).wrs fun h3 H3 => ⟨_, _, H3.rdc0, ?_⟩⟩
    refine idxf E_sl_api_Use (l := lefts s n) (φ := useV) (x := s.left k) (H3.m2).rd (fun _ => rfl) (by omega) (by omega) (by omega) (by rw [Int.toNat_natCast]; unfold lefts; rw [List.getElem?_map, List.getElem?_range (by omega)]; rfl) fun t ht => ⟨_, _, ht, br_false (by rw [hl]; simp) ?_⟩
    simp only [inc (show k < 2 ^ 62 by omega)]
    exact ih (k + 1) (by omega) (H3.tl.m1)
end
theorem QuotaFrees_spec {a sa : Option Addr} {n c sn sc : Nat} {ts : List Ten} {ops : List Op} {nm : ByteArray} {u : Int × Int} (hr : Rd h a (ts.flatMap tenV)) (hn : ts.length = n) (hz : ∀ t ∈ ts, t.name.size < 9223372036854775808) (hs : Rd h sa (ops.flatMap opV)) (hsn : ops.length = sn)
    (HQ : ∀ h', ExtB h.size h h' → Q (.bool true) h') : SpecH PP F_law17_QuotaFrees [.slice a n c, .slice sa sn sc, .string nm, .agg (useV u).toArray] h Q := by
  refine law17_QuotaFrees_door ?_
  unfold law17_QuotaFrees_main
  have H1 := (Hs.start h).new (t := T_api_Use) (cs := #[.int .i64 u.1, .int .i64 u.2]) (xs := [.int .i64 u.1, .int .i64 u.2])
  generalize h.size = m7 at H1 ⊢
  have hr' : Gv [pt m7 T_api_Use [.int .i64 u.1, .int .i64 u.2], ro h] a (ts.flatMap tenV) := (Gv.ro hr).cons
  have hs' : Gv [pt m7 T_api_Use [.int .i64 u.1, .int .i64 u.2], ro h] sa (ops.flatMap opV) := (Gv.ro hs).cons
  have tr : ∀ h', Hs h' [pt m7 T_api_Use [.int .i64 u.1, .int .i64 u.2], ro h] → law17_QuotaFrees_J101 a n c sa sn sc nm ⟨m7, 0, none⟩ true Q h' := fun h' H' => law17_QuotaFrees_J101_of (br_true rfl (HQ _ H'.tl.ro_below))
  refine (br_iff _ _ _).2 ⟨fun _ => tr _ H1, fun e1 => ?_⟩
  by_cases e2 : (sn : Int) > 1000
  · rw [decide_eq_true e2]; exact tr _ H1
  rw [decide_eq_false e2]
  have l1 : n ≤ 1000 := by have := of_decide_eq_false e1; omega
  have l2 : sn ≤ 1000 := by omega
  refine law17_QuotaFrees_J101_of (br_false rfl ?_)
  refine New_spec hr' hn (by omega) hz H1 (fun e h2 H2 => ?_) fun e h2 p blks H2 => ?_
  · refine ⟨_, _, rfl, br_true (by simpa using e) (law17_QuotaFrees_J11101_of (br_true rfl (awake_spec H2 fun h3 H3 => ⟨_, rfl, HQ _ H3.tl.ro_below⟩)))⟩
  · refine ⟨_, _, rfl, br_false rfl (law17_QuotaFrees_J11101_of (br_false rfl ?_))⟩
    refine rNew_spec (ts := ts) hn (by omega) (chk_qi e) H2 fun h3 r H3 => ⟨_, rfl, ?_⟩
    refine frees_loop hr' hn l1 hs' hsn l2 (fun h4 s R H4 => ?_) sn 0 (by omega) (run0 ts) H3.m1
    rw [law17_QuotaFrees_at11111010_X0]
    have hr4 : Gv [pt m7 T_api_Use [.int .i64 u.1, .int .i64 u.2], ro h] a (s.ts.flatMap tenV) := by rw [R.ts]; exact hr'
    have hn4 : s.ts.length = n := by rw [R.ts]; exact hn
    refine ahead_loop (s := s) hr4 hn4 l1 (fun h5 aa ac H5 => ?_) n 0 (by omega) (H4.own_nil T_api_Use 2)
    rw [law17_QuotaFrees_at1111111010_X2]
    have q := Bk.qi H5.m1
    have last : ∀ (s' : QS) (xn : Int), s'.ts = s.ts → (∀ k, s'.left k = s.left k) → fdH s'.hd xn = none → ∀ h', Hs h' (own aa n ac T_api_Use 2 ((lefts s n).flatMap useV) :: Bk p blks s' :: [pt m7 T_api_Use [.int .i64 u.1, .int .i64 u.2], ro h]) → law17_QuotaFrees_J11111111101 a n c (some ⟨p, 0, none⟩) aa n ac xn false Q h' := by
      intro s' xn hts hl hf h' H'
      refine law17_QuotaFrees_J11111111101_of (br_false rfl ?_)
      refine same_loop (s := s) (s' := s') hr4 hn4 l1 hts hl (fun h6 H6 => ?_) n 0 (by omega) H'
      rw [law17_QuotaFrees_at1111111111010_X4]
      refine awake_spec H6 fun h7 H7 => ⟨_, rfl, br_true rfl ?_⟩
      exact Free_spec H7 (fun h8 H8 _ => ⟨_, rfl, HQ _ H8.tl.tl.ro_below⟩) (fun _ x _ e' => by rw [hf] at e'; cases e')
    have f0 : fdH s.hd 0 = none := by
      unfold fdH; rw [List.find?_eq_none]; intro x hx; have := R.pos x hx; simp; omega
    refine ⟨_, _, (H5.m2).rdc0, Reserve_spec H5.m1 (by have := R.last; omega) (fun h6 H6 _ => ⟨_, _, rfl, br_false rfl (last s 0 rfl (fun _ => rfl) f0 h6 H6.m1)⟩) (fun h6 k H6 _ _ => ⟨_, _, rfl, br_false rfl (last s 0 rfl (fun _ => rfl) f0 h6 H6.m1)⟩) (fun h6 k H6 _ _ _ => ⟨_, _, rfl, br_false rfl (last s 0 rfl (fun _ => rfl) f0 h6 H6.m1)⟩) (fun h6 k H6 _ hb hle => ⟨_, _, rfl, br_true rfl ?_⟩)⟩
    have fl : fdH s.hd ((s.last + 1 : Nat) : Int) = none := by
      unfold fdH; rw [List.find?_eq_none]; intro x hx; have := (q.ks x hx).2.2.2.2.2; simp; omega
    have gl : goneH (s.hd ++ [⟨s.last + 1, k, u.1, u.2⟩]) ((s.last + 1 : Nat) : Int) = s.hd := by
      unfold goneH; rw [List.filter_append, List.filter_eq_self.2 (fun x hx => by have := (q.ks x hx).2.2.2.2.2; simp; omega)]; simp
    refine Free_spec H6 (fun h7 H7 e' => ?_) (fun h7 x H7 e' => ⟨_, rfl, ?_⟩)
    · exfalso
      simp only [QS.res] at e'
      rw [fdH_app (fun y hy => by have := (q.ks y hy).2.2.2.2.2; show y.id ≠ s.last + 1; omega), if_pos rfl] at e'
      cases e'
    · have es : (s.res k u.1 u.2).free ((s.last + 1 : Nat) : Int) = { s with last := s.last + 1 } := by
        unfold QS.res QS.free; simp only [gl]
      rw [es] at H7
      exact last { s with last := s.last + 1 } _ rfl (fun _ => rfl) fl h7 H7.m1
end Go.Proofs.Ytladdcnfdbmnlaa

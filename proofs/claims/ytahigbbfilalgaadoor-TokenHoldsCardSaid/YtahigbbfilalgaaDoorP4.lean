/- Texts of the proof, laid together: Parse: the program's and the document's.; The book: the program's.; The book: the program's calls.; The document's examples; the laws of Print and Parse.; The laws of no book, and of the round.; The law of one token.; Claims and tenants as arguments; what start-up laid, as the row tells it. -/
import Derived.Test.YtahigbbfilalgaaDoorP3
import Derived.Test.YtahigbbfilalgaaDoorP2
import Derived.Test.YtahigbbfilalgaaDoorRows
import Derived.Lib.LaidTab
import Derived.Stop.LaidErr
import Derived.LaidSub
set_option linter.unusedVariables false
set_option linter.unusedSimpArgs false
set_option maxRecDepth 4000
namespace Go.Proofs.YtahigbbfilalgaaDoor
open Go Go.HW Go.HW.Dec Go.HW.Spl
variable {h : Heap} {L : List Assn} {Q : Value → Heap → Prop}
/-- A text is a claim with these digits. -/
structure IsT (s : ByteArray) (c : Clm) (m : ByteArray) : Prop where
  sz : s.size ≤ 256
  sp : spl (sb s) = [sb c.t, decN c.u.toNat, decN c.s.toNat, sb m]
  may : mayB c = true
  ml : m.size = 64
  mx : (sb m).all okx = true
theorem decN_inj {a b : Nat} (h : decN a = decN b) : a = b := by rw [← valD_dec a, h, valD_dec]
theorem IsT.uniq {s : ByteArray} {c c' : Clm} {m m' : ByteArray} (k : IsT s c m) (k' : IsT s c' m') : c = c' ∧ m = m' := by
  have e := k.sp.symm.trans k'.sp
  simp only [List.cons.injEq, and_true] at e
  obtain ⟨e1, e2, e3, e4⟩ := e
  obtain ⟨_, a1, a2, a3, a4⟩ := (mayB_iff c).1 k.may
  obtain ⟨_, b1, b2, b3, b4⟩ := (mayB_iff c').1 k'.may
  refine ⟨?_, sb_inj e4⟩
  have e2 := decN_inj e2; have e3 := decN_inj e3
  have h1 : c.u = c'.u := by omega
  have h2 : c.s = c'.s := by omega
  cases c; cases c'
  simp only at e1 h1 h2
  rw [sb_inj e1, h1, h2]
theorem clm_no {K : Value → Heap → Prop} {x : Nat} {h : Heap} {M : List Assn} {xs : List Value} (H : Hs h (pt x T_api_Claim xs :: M)) (hx : xs.length = 3) (kk : ∀ h', Hs h' (pt x T_api_Claim Clm.none.l :: M) → K (.tuple #[Clm.none.v, .string ⟨#[]⟩, .int .i64 160]) h') :
    wrCells ⟨x, 0, none⟩ 0 [(.string (⟨#[]⟩ : ByteArray)), (.int .i64 0), (.int .i64 0)] (fun h2 => ∃ (a : ByteArray) (b c : Int), rdCells h2 ⟨x, 0, none⟩ 0 [(.string a), (.int .i64 b), (.int .i64 c)] ∧ K (.tuple #[(.agg #[(.string a), (.int .i64 b), (.int .i64 c)]), (.string (⟨#[]⟩ : ByteArray)), (.int .i64 160)]) h2) h :=
  Hs.wrs H (fun h' H' => ⟨_, _, _, H'.rdc0, kk h' H'⟩) (by rw [hx]; rfl)
section
variable {s : ByteArray} {l : List ByteArray} {a : Option Addr} {c : Nat}
theorem piece_at {M : List Assn} {k : IntKind} {i : Int} {x : ByteArray} (g : Gv M a (strs l)) (H : Hs h M) (h0 : 0 ≤ i) (hi : i < l.length) (hx : l[i.toNat]? = some x) {R : Addr → Heap → Prop} (K : ∀ t, cellH h t = some (.string x) → R t h) :
    hwp PP (Instr.indexAt T_sl_string (.slice a l.length c) (.int k i)) (fun u h1 => ∃ t, u = .pointer (some t) ∧ R t h1) h :=
  idx E_sl_string (g h H) h0 hi (by simp [strs, hx]) K
end
theorem four {l : List ByteArray} (h : l.length = 4) : ∃ a b c d, l = [a, b, c, d] := by
  match l, h with
  | [a, b, c, d], _ => exact ⟨a, b, c, d, rfl⟩
theorem TParse_h {s : ByteArray} (t : TTabL L) (hs : s.size ≤ 2 ^ 20) (H : Hs h L) (yes : ∀ c m h', IsT s c m → Hs h' L → Q (.tuple #[c.v, .string m, .int .i64 0]) h')
    (no : (∀ c m, ¬ IsT s c m) → ∀ h', Hs h' L → Q (.tuple #[Clm.none.v, .string ⟨#[]⟩, .int .i64 160]) h') : SpecH PP F_token_Parse [.string s] h Q := by
  refine token_Parse.door ?_
  have P := H.new (t := T_api_Claim) (cs := #[(.string (⟨#[]⟩ : ByteArray)), (.int .i64 0), (.int .i64 0)]) (xs := Clm.none.l)
  dsimp only
  generalize hx0 : h.size = x0 at *
  generalize h.push (.cells #[(.string (⟨#[]⟩ : ByteArray)), (.int .i64 0), (.int .i64 0)] T_api_Claim (0, 0)) = h1 at *
  by_cases h256 : s.size ≤ 256
  case neg => exact br_true (decide_eq_true (by omega)) (clm_no P rfl fun h' H' => no (fun c m k => h256 k.sz) h' H'.tl)
  refine br_false (decide_eq_false (by omega)) (Split_h hs P fun b l h2 hl H2 => ⟨_, _, _, rfl, ?_⟩)
  by_cases h4 : l.length = 4
  case neg => exact br_true (by simp; omega) (clm_no (H2.sel 2 [1]) rfl fun h' H' => no (fun c m k => h4 (by have := congrArg List.length hl; rw [k.sp] at this; simpa using this)) h' H'.tl)
  refine br_false (by rw [h4]; rfl) ?_
  obtain ⟨p0, p1, p2, p3, rfl⟩ := four h4
  simp only [List.map_cons, List.map_nil] at hl
  have hsz : p1.size ≤ 2 ^ 20 ∧ p2.size ≤ 2 ^ 20 ∧ p3.size ≤ 2 ^ 20 := by
    have := spl_total (sb s)
    rw [← hl] at this
    simp only [List.map_cons, List.map_nil, List.sum_cons, List.sum_nil, sb_len] at this
    omega
  have g : ∀ {M : List Assn}, Gv (own (some ⟨b, 0, none⟩) 4 4 T_string 1 (strs [p0, p1, p2, p3]) :: M) (some ⟨b, 0, none⟩) (strs [p0, p1, p2, p3]) := Gv.own
  refine piece_at (c := 4) g H2 (by omega) (by simp) rfl fun t1 c1 => ⟨_, c1, Num_h t.cons.cons (by omega) H2 fun v1 b1 h3 f1 f2 H3 => ⟨_, _, rfl, ?_⟩⟩
  refine piece_at (c := 4) g H3 (by omega) (by simp) rfl fun t2 c2 => ⟨_, c2, Num_h t.cons.cons (by omega) H3 fun v2 b2 h5 f3 f4 H5 => ⟨_, _, rfl, ?_⟩⟩
  refine piece_at (c := 4) g H5 (by omega) (by simp) rfl fun t3 c3 => ⟨_, c3, ?_⟩
  have P5 := H5.new (t := T_api_Claim) (cs := #[(.string (⟨#[]⟩ : ByteArray)), (.int .i64 0), (.int .i64 0)]) (xs := Clm.none.l)
  generalize hx5 : h5.size = x5 at *
  generalize h5.push (.cells #[(.string (⟨#[]⟩ : ByteArray)), (.int .i64 0), (.int .i64 0)] T_api_Claim (0, 0)) = h6 at *
  refine Hs.wrs (xs := Clm.none.l) P5 (fun h7 H7 => ?_)
  have H7 : Hs h7 (pt x5 T_api_Claim (Clm.mk p0 v1 v2).l :: own (some ⟨b, 0, none⟩) 4 4 T_string 1 (strs [p0, p1, p2, p3]) :: pt x0 T_api_Claim Clm.none.l :: L) := H7
  have key : ∀ c m, IsT s c m → b1 = true ∧ b2 = true ∧ c = ⟨p0, v1, v2⟩ ∧ m = p3 := fun c m k => by
    have e := hl.trans k.sp
    simp only [List.cons.injEq, and_true] at e
    obtain ⟨e1, e2, e3, e4⟩ := e
    obtain ⟨_, a1, a2, a3, a4⟩ := (mayB_iff c).1 k.may
    obtain ⟨q1, q2⟩ := f2 c.u.toNat (by omega) e2
    obtain ⟨q3, q4⟩ := f4 c.s.toNat (by omega) e3
    refine ⟨q1, q3, ?_, (sb_inj e4).symm⟩
    cases c
    simp only at e1 q2 q4 a1 a3
    rw [sb_inj e1, q2, q4]
    congr 1 <;> omega
  have nope : ∀ {h' : Heap}, Hs h' (pt x5 T_api_Claim (Clm.mk p0 v1 v2).l :: own (some ⟨b, 0, none⟩) 4 4 T_string 1 (strs [p0, p1, p2, p3]) :: pt x0 T_api_Claim Clm.none.l :: L) → (∀ c m, ¬ IsT s c m) → token_Parse.J1 ⟨x0, 0, none⟩ (some ⟨b, 0, none⟩) 4 4 ⟨x5, 0, none⟩ true Q h' :=
    fun H' hn => token_Parse.J1_of (br_true rfl (clm_no (H'.sel 3 [2]) rfl fun h' H' => no hn h' H'.tl))
  cases b1 with
  | false => exact br_true rfl (nope H7 fun c m k => by have := (key c m k).1; cases this)
  | true =>
  refine br_false rfl ?_
  cases b2 with
  | false => exact br_true rfl (nope H7 fun c m k => by have := (key c m k).2.1; cases this)
  | true =>
  refine br_false rfl ⟨_, _, _, H7.rdc0, Right_h (c := ⟨p0, v1, v2⟩) H7 fun h8 H8 => ⟨_, rfl, ?_⟩⟩
  by_cases hm : mayB ⟨p0, v1, v2⟩ = true
  case neg =>
    have hm : mayB ⟨p0, v1, v2⟩ = false := by simpa using hm
    rw [hm]
    exact br_true rfl (nope H8 fun c m k => by have h1 := k.may; rw [(key c m k).2.2.1, hm] at h1; cases h1)
  rw [hm]
  refine br_false rfl ?_
  refine piece_at (l := [p0, p1, p2, p3]) (c := 4) Gv.own.cons H8 (by omega) (by simp) rfl fun t4 c4 => ⟨_, c4, ?_⟩
  by_cases h64 : p3.size = 64
  case neg => exact br_true (by simp; omega) (nope H8 fun c m k => h64 (by rw [← (key c m k).2.2.2]; exact k.ml))
  refine br_false (by rw [h64]; rfl) ?_
  refine piece_at (l := [p0, p1, p2, p3]) (c := 4) Gv.own.cons H8 (by omega) (by simp) rfl fun t5 c5 => ⟨_, c5, ?_⟩
  refine Trim_h H8 (by omega) (by decide) (ascii_of (by decide +kernel)) fun h9 H9 => ⟨_, rfl, ?_⟩
  have e := trim_ok (s := p3) cutX_ok
  unfold cutX at e
  dsimp only
  rw [e]
  by_cases hx : (sb p3).all okx = true
  case neg =>
    have hx : (sb p3).all okx = false := by simpa using hx
    rw [hx]
    exact nope H9 fun c m k => by have h1 := k.mx; rw [(key c m k).2.2.2, hx] at h1; cases h1
  rw [hx]
  obtain ⟨_, a1, a2, a3, a4⟩ := (mayB_iff _).1 hm
  simp only at a1 a2 a3 a4
  have ok : IsT s ⟨p0, v1, v2⟩ p3 := ⟨h256, by rw [← hl, f1 rfl v1.toNat (by omega), f3 rfl v2.toNat (by omega)], hm, h64, hx⟩
  refine token_Parse.J1_of (br_false rfl ⟨_, _, _, H9.rdc0, ?_⟩)
  have fin : ∀ {h' : Heap}, Hs h' (pt x0 T_api_Claim (Clm.mk p0 v1 v2).l :: pt x5 T_api_Claim (Clm.mk p0 v1 v2).l :: own (some ⟨b, 0, none⟩) 4 4 T_string 1 (strs [p0, p1, p2, p3]) :: L) → Q (.tuple #[Clm.v ⟨p0, v1, v2⟩, .string p3, .int .i64 0]) h' := fun H' => yes _ _ _ ok H'.tl.tl.tl
  have at3 : ∀ {h' : Heap} {M : List Assn}, Hs h' M → Gv M (some ⟨b, 0, none⟩) (strs [p0, p1, p2, p3]) → cellH h' ((⟨b, 0, none⟩ : Addr).add ((3 : Int).toNat * 1)) = some (.string p3) := fun H' g' => by
    obtain ⟨a, ea, hc⟩ := g' _ H' 3 (.string p3) rfl
    cases ea; exact hc
  refine hwp_index E_sl_string (by omega) (by simp) ⟨_, rfl, ⟨_, at3 H9 Gv.own.cons, ?_⟩, ?_, trivial⟩
  · exact Hs.wrs (xs := Clm.none.l) (H9.sel 3 [2, 0, 1]) (fun h10 H10 => ⟨_, _, _, H10.rdc0, fin H10⟩)
  · exact Hs.wrs (xs := Clm.none.l) (H9.sel 3 [2, 0, 1]) (fun h10 H10 => ⟨_, at3 H10 Gv.own.cons.cons, _, _, _, H10.rdc0, fin H10⟩)
end Go.Proofs.YtahigbbfilalgaaDoor

set_option linter.unusedVariables false
set_option linter.unusedSimpArgs false
set_option maxRecDepth 4000
namespace Go.Proofs.YtahigbbfilalgaaDoor
open Go Go.HW Go.HW.Dec Go.HW.Spl
variable {h : Heap} {L : List Assn} {Q : Value → Heap → Prop}
structure Tn where
  n : ByteArray
  s : ByteArray
  b : Int
  e : Int
def Tn.l (t : Tn) : List Value := [.string t.n, .string t.s, .int .i64 t.b, .int .i64 t.e]
def okT1 (t : Tn) : Prop := shortB t.n = true ∧ t.s.size ≤ 64 ∧ 0 ≤ t.b ∧ t.b ≤ 1000000000 ∧ 0 ≤ t.e ∧ t.e ≤ 1000000000
def okN (ts : List Tn) : Prop := (∀ t ∈ ts, okT1 t) ∧ (ts.map Tn.n).Nodup
def sec (ts : List Tn) : List (ByteArray × ByteArray) := ts.map fun t => (t.n, t.s)
theorem sec_keys (ts : List Tn) : (sec ts).map (·.1) = ts.map Tn.n := by simp [sec]
def unitV (_ : Unit) : Value := .agg #[]
theorem K_str : Keys PP T_string Value.string := Keys.str (by kernel_rfl)
theorem K_int : Keys PP T_int (Value.int .i64) := Keys.int (by kernel_rfl)
/-- The program's book. -/
def BkA (x : Nat) (ts : List Tn) (n : Int) (rv : List Int) : Assn := fun m => ∃ m1 m2, ∃ l2 : List (Int × Unit), (∀ k, mget l2 k ≠ none ↔ k ∈ rv) ∧ Sp [pt x T_token_Book [.map (some m1), .map (some m2), .int .i64 n], mp .string .string m1 (sec ts), mp (.int .i64) unitV m2 l2] m
theorem BkA_iff {x : Nat} {ts : List Tn} {n : Int} {rv : List Int} : Hs h (BkA x ts n rv :: L) ↔ ∃ m1 m2, ∃ l2 : List (Int × Unit), (∀ k, mget l2 k ≠ none ↔ k ∈ rv) ∧ Hs h (pt x T_token_Book [.map (some m1), .map (some m2), .int .i64 n] :: mp .string .string m1 (sec ts) :: mp (.int .i64) unitV m2 l2 :: L) := by
  unfold BkA; simp only [Hs.ex, Hs.and, Hs.app, List.cons_append, List.nil_append]
theorem mset_snoc {α β : Type} [DecidableEq α] (l : List (α × β)) (k : α) (v : β) (h : k ∉ l.map (·.1)) : mset l k v = l ++ [(k, v)] := by
  induction l with
  | nil => rfl
  | cons x l ih =>
    simp only [List.map_cons, List.mem_cons, not_or] at h
    rw [mset, if_neg (fun e => h.1 e.symm), ih h.2]; rfl
theorem new_loop {ts : List Tn} {a : Option Addr} {n c x m1 m2 : Nat} {K : EP} (g : Gv L a (ts.flatMap Tn.l)) (hn : ts.length = n) (h8 : n ≤ 8)
    (yes : okN ts → ∀ h', Hs h' (pt x T_token_Book [.map (some m1), .map (some m2), .int .i64 0] :: mp .string .string m1 (sec ts) :: L) → K (.exit 0) (token_New.X0 ⟨x, 0, none⟩) h')
    (no : ¬ okN ts → ∀ h', Hs h' L → K .ret (token_New.Xret none 1) h') :
    ∀ (k i : Nat) {h : Heap}, i + k = n → okN (ts.take i) → Hs h (pt x T_token_Book [.map (some m1), .map (some m2), .int .i64 0] :: mp .string .string m1 (sec (ts.take i)) :: L) →
      token_New.L1 ⟨x, 0, none⟩ a n c (n : Int) i K h := by
  intro k
  induction k with
  | zero =>
    intro i h hi ok H
    refine token_New.L1_of (br_false (decide_eq_false (by omega)) ?_)
    rw [List.take_of_length_le (by omega)] at ok H
    exact yes ok h H
  | succ k ih =>
    intro i h hi ok H
    have hl : i < ts.length := by omega
    have et : ts.take (i + 1) = ts.take i ++ [ts[i]] := by rw [List.take_add_one, List.getElem?_eq_getElem hl]; rfl
    refine token_New.L1_of (br_true (decide_eq_true (by omega)) (idxf E_sl_api_Tenant (x := ts[i]) (g _ H.tl.tl) (fun _ => rfl) (by omega) (by omega) (by omega) (by rw [Int.toNat_natCast]; exact List.getElem?_eq_getElem hl) fun t ht => ⟨_, _, _, _, ht, ?_⟩))
    have P := H.new (t := T_api_Tenant) (cs := #[(.string (⟨#[]⟩ : ByteArray)), (.string (⟨#[]⟩ : ByteArray)), (.int .i64 0), (.int .i64 0)]) (xs := (Tn.mk ⟨#[]⟩ ⟨#[]⟩ 0 0).l)
    have part : okN ts → okN (ts.take (i + 1)) := fun o => ⟨fun t ht => o.1 t (List.mem_of_mem_take ht), by rw [List.map_take]; exact o.2.take⟩
    have bad : ∀ {h' : Heap} {M : List Assn}, ¬ okN (ts.take (i + 1)) → Hs h' (pt h.size T_api_Tenant ts[i].l :: M) → (∀ h', Hs h' M → Hs h' L) → token_New.J1 ⟨x, 0, none⟩ ⟨h.size, 0, none⟩ a n c (n : Int) i true K h' := fun hb H' f => token_New.J1_of (br_true rfl (no (fun o => hb (part o)) _ (f _ H'.tl)))
    refine Hs.wrs (xs := (Tn.mk ⟨#[]⟩ ⟨#[]⟩ 0 0).l) P (fun h3 H3 => ?_)
    have H3 : Hs h3 (pt h.size T_api_Tenant ts[i].l :: pt x T_token_Book [.map (some m1), .map (some m2), .int .i64 0] :: mp .string .string m1 (sec (ts.take i)) :: L) := H3
    generalize hy : h.size = y at *
    refine ⟨_, (H3.sel 3 [1]).cell (off := 0) rfl, _, H3.cell (off := 0) rfl, ?_⟩
    refine (H3.sel 3 [2, 0, 1]).lookup2 U_map_string_string K_str (z := .string ⟨#[]⟩) (by kernel_rfl) ts[i].n ?_
    have tl2 : ∀ h', Hs h' (pt x T_token_Book [.map (some m1), .map (some m2), .int .i64 0] :: mp .string .string m1 (sec (ts.take i)) :: L) → Hs h' L := fun h' H' => H'.tl.tl
    cases hg : mget (sec (ts.take i)) ts[i].n with
    | some v =>
      refine ⟨_, _, rfl, br_true rfl (bad (fun o => ?_) H3 tl2)⟩
      have hm := mget_mem hg
      have h2 := o.2
      rw [et, List.map_append, List.nodup_append] at h2
      obtain ⟨u, hu, e⟩ := List.mem_map.1 hm
      have e1 : u.n = ts[i].n := congrArg Prod.fst e
      exact h2.2.2 u.n (List.mem_map.2 ⟨u, hu, rfl⟩) ts[i].n (by simp) e1
    | none =>
      have fresh := mget_none.1 hg
      rw [sec_keys] at fresh
      refine ⟨_, _, rfl, br_false rfl ⟨_, H3.cell (off := 0) rfl, Short_h H3 fun h4 H4 => ⟨_, rfl, ?_⟩⟩⟩
      have good : okT1 ts[i] → okN (ts.take (i + 1)) := fun o => by
        rw [et]
        refine ⟨fun t ht => ?_, ?_⟩
        · rcases List.mem_append.1 ht with ht | ht
          · exact ok.1 t ht
          · simp at ht; rw [ht]; exact o
        · rw [List.map_append, List.nodup_append]
          exact ⟨ok.2, by simp, fun a ha b hb => by simp at hb; rw [hb]; exact fun e => fresh (e ▸ ha)⟩
      have only : okN (ts.take (i + 1)) → okT1 ts[i] := fun o => o.1 _ (et.symm ▸ List.mem_append_right _ (List.mem_singleton.2 rfl))
      generalize hti : ts[i] = t at *
      dsimp only
      by_cases s1 : shortB t.n = true
      case neg => exact br_true (by simpa using s1) (bad (fun o => s1 (only o).1) H4 tl2)
      refine br_false (by simp [s1]) ⟨_, H4.cell (off := 1) rfl, ?_⟩
      by_cases s2 : t.s.size ≤ 64
      case neg => exact br_true (decide_eq_true (by omega)) (bad (fun o => s2 (only o).2.1) H4 tl2)
      refine br_false (decide_eq_false (by omega)) ⟨_, H4.cell (off := 2) rfl, _, H4.cell (off := 3) rfl, ?_⟩
      by_cases s3 : 0 ≤ t.b ∧ 0 ≤ t.e
      case neg => exact br_true (decide_eq_true (by split <;> omega)) (bad (fun o => s3 ⟨(only o).2.2.1, (only o).2.2.2.2.1⟩) H4 tl2)
      refine br_false (decide_eq_false (by split <;> omega)) ⟨_, H4.cell (off := 2) rfl, _, H4.cell (off := 3) rfl, ?_⟩
      by_cases s4 : t.b ≤ 1000000000 ∧ t.e ≤ 1000000000
      case neg =>
        rw [decide_eq_true (by split <;> omega)]
        exact bad (fun o => s4 ⟨(only o).2.2.2.1, (only o).2.2.2.2.2⟩) H4 tl2
      rw [decide_eq_false (by split <;> omega)]
      refine token_New.J1_of (br_false rfl ⟨_, (H4.sel 3 [1]).cell (off := 0) rfl, _, H4.cell (off := 0) rfl, _, H4.cell (off := 1) rfl, ?_⟩)
      refine (H4.sel 3 [2, 1]).mset U_map_string_string K_str t.n t.s rfl fun h5 H5 => ?_
      rw [inc (by omega)]
      have o1 := good ⟨s1, s2, s3.1, s4.1, s3.2, s4.2⟩
      refine ih (i + 1) (by omega) o1 ?_
      rw [et]
      have : mset (sec (ts.take i)) t.n t.s = sec (ts.take i ++ [t]) := by rw [mset_snoc _ _ _ (by rw [sec_keys]; exact fresh)]; simp [sec]
      rw [this] at H5
      exact H5.m1
theorem New_h {ts : List Tn} {a : Option Addr} {n c : Nat} (g : Gv L a (ts.flatMap Tn.l)) (hn : ts.length = n) (H : Hs h L) (long : 8 < n → ∀ h', Hs h' L → Q (.tuple #[.pointer none, .int .i64 2]) h')
    (no : n ≤ 8 → ¬ okN ts → ∀ h', Hs h' L → Q (.tuple #[.pointer none, .int .i64 1]) h') (yes : n ≤ 8 → okN ts → ∀ x h', Hs h' (BkA x ts 0 [] :: L) → Q (.tuple #[.pointer (some ⟨x, 0, none⟩), .int .i64 0]) h') :
    SpecH PP F_token_New [.slice a n c] h Q := by
  refine token_New.door ?_
  by_cases h8 : n ≤ 8
  case neg => exact br_true (decide_eq_true (by omega)) (long (by omega) h H)
  refine br_false (decide_eq_false (by omega)) ?_
  dsimp only
  have P1 := H.mp_new (κ := Value.string) (ν := Value.string)
  have P2 := P1.mp_new (κ := Value.int .i64) (ν := unitV)
  generalize h.push (.map #[] 0) = h1 at *
  generalize h1.push (.map #[] 0) = h2 at *
  have P3 := P2.new (t := T_token_Book) (cs := #[(.map (some h.size)), (.map (some h1.size)), (.int .i64 0)]) (xs := [(.map (some h.size)), (.map (some h1.size)), (.int .i64 0)])
  refine new_loop (L := mp (.int .i64) unitV h1.size [] :: L) (m1 := h.size) (m2 := h1.size) (x := h2.size) g.cons hn h8 (fun o h' H' => token_New.L1_X0 (yes h8 o _ h' (BkA_iff.2 ⟨_, _, [], by simp [mget_nil], H'⟩))) (fun o h' H' => token_New.L1_Xret (no h8 o h' H'.tl)) n 0 (by omega) ⟨by simp, by simp⟩ ?_
  exact P3.sel 3 [0, 2, 1]
end Go.Proofs.YtahigbbfilalgaaDoor

set_option linter.unusedVariables false
set_option linter.unusedSimpArgs false
set_option maxRecDepth 4000
namespace Go.Proofs.YtahigbbfilalgaaDoor
open Go Go.HW Go.HW.Dec Go.HW.Spl
variable {h : Heap} {L : List Assn} {Q : Value → Heap → Prop}
open Classical in
/-- What a text is. -/
noncomputable def prs (s : ByteArray) : Option (Clm × ByteArray) := if k : ∃ p : Clm × ByteArray, IsT s p.1 p.2 then some k.choose else none
theorem prs_yes {s : ByteArray} {c : Clm} {m : ByteArray} (k : IsT s c m) : prs s = some (c, m) := by
  unfold prs
  have e : ∃ p : Clm × ByteArray, IsT s p.1 p.2 := ⟨(c, m), k⟩
  rw [dif_pos e]
  obtain ⟨e1, e2⟩ := e.choose_spec.uniq k
  exact congrArg some (Prod.ext e1 e2)
theorem prs_no {s : ByteArray} (k : ∀ c m, ¬ IsT s c m) : prs s = none := by
  unfold prs; rw [dif_neg]; rintro ⟨p, hp⟩; exact k _ _ hp
/-- What Check says. -/
noncomputable def chkF (ts : List Tn) (rv : List Int) (s : ByteArray) (now : Int) : Clm × Int :=
  match prs s with
  | none => (Clm.none, 160)
  | some (c, m) => match mget (sec ts) c.t with
    | none => (Clm.none, 161)
    | some k => if hexL (macB (bodyL c) (sb k)) = sb m then if c.u < now then (Clm.none, 162) else if c.s ∈ rv then (Clm.none, 163) else (c, 0) else (Clm.none, 161)
theorem sec_ok {ts : List Tn} (ok : okN ts) {k s : ByteArray} (e : mget (sec ts) k = some s) : shortB k = true ∧ s.size ≤ 64 := by
  obtain ⟨t, ht, e⟩ := List.mem_map.1 (mget_mem e)
  cases e
  exact ⟨(ok.1 t ht).1, (ok.1 t ht).2.1⟩
theorem BkA.isB {x : Nat} {ts : List Tn} {n : Int} {rv : List Int} (H : Hs h (BkA x ts n rv :: L)) : ∃ m1 m2, ∃ l2 : List (Int × Unit), (∀ k, mget l2 k ≠ none ↔ k ∈ rv) ∧ Hs h (pt x T_token_Book [.map (some m1), .map (some m2), .int .i64 n] :: mp .string .string m1 (sec ts) :: mp (.int .i64) unitV m2 l2 :: L) := BkA_iff.1 H
theorem Issue_h {x : Nat} {ts : List Tn} {n u : Int} {rv : List Int} {tn : ByteArray} (t : TTabL L) (ok : okN ts) (h0 : 0 ≤ n) (h1 : n < 1000000000) (H : Hs h (BkA x ts n rv :: L))
    (noT : mget (sec ts) tn = none → ∀ h', Hs h' (BkA x ts n rv :: L) → Q (.tuple #[.string ⟨#[]⟩, .int .i64 170]) h')
    (bad : ∀ k h', mget (sec ts) tn = some k → ¬ (0 ≤ u ∧ u ≤ 1000000000) → Hs h' (BkA x ts n rv :: L) → Q (.tuple #[.string ⟨#[]⟩, .int .i64 1]) h')
    (yes : ∀ k s h', mget (sec ts) tn = some k → 0 ≤ u ∧ u ≤ 1000000000 → sb s = printL ⟨tn, u, n + 1⟩ k → Hs h' (BkA x ts (n + 1) rv :: L) → Q (.tuple #[.string s, .int .i64 0]) h') :
    SpecH PP F_token_Book_Issue [.pointer (some ⟨x, 0, none⟩), .string tn, .int .i64 u] h Q := by
  obtain ⟨m1, m2, l2, hl, H'⟩ := BkA.isB H
  refine token_Book_Issue.door (br_false rfl ⟨_, H'.cell (off := 0) rfl, ?_⟩)
  refine H'.m1.lookup2 U_map_string_string K_str (z := .string ⟨#[]⟩) (by kernel_rfl) tn ?_
  cases hg : mget (sec ts) tn with
  | none => exact ⟨_, _, rfl, br_true rfl (noT hg h H)⟩
  | some k =>
    refine ⟨_, _, rfl, br_false rfl ?_⟩
    obtain ⟨s1, s2⟩ := sec_ok ok hg
    have no : ¬ (0 ≤ u ∧ u ≤ 1000000000) → token_Book_Issue.J1 (some ⟨x, 0, none⟩) tn u k true Q h := fun hb => token_Book_Issue.J1_of (br_true rfl (bad k h hg hb H))
    refine (br_iff _ _ _).2 ⟨fun b1 => no (by have := of_decide_eq_true b1; omega), fun b1 => ?_⟩
    have b1 := of_decide_eq_false b1
    dsimp only
    by_cases hu : u ≤ 1000000000
    case neg => rw [decide_eq_true (by omega)]; exact no (by omega)
    rw [decide_eq_false (by omega)]
    refine token_Book_Issue.J1_of (br_false rfl ⟨_, H'.cell (off := 2) rfl, br_false (by simp; omega) ⟨_, H'.cell (off := 2) rfl, ?_⟩⟩)
    rw [wrap_i64_z (by omega) (by omega)]
    refine H'.sto (off := 2) (by simp) (fun h2 H2 => ⟨_, H2.cell (off := 2) rfl, ?_⟩) rfl rfl
    have H2 := BkA_iff.2 ⟨m1, m2, l2, hl, H2⟩
    have may : mayB ⟨tn, u, n + 1⟩ = true := (mayB_iff _).2 ⟨s1, by simp only; omega, hu, by simp only; omega, by simp only; omega⟩
    exact Print_h (c := ⟨tn, u, n + 1⟩) t.cons H2 (fun e => by simp [okP, may, s2] at e) (fun e s h' hs H3 => ⟨_, _, rfl, yes k s h' hg ⟨by omega, hu⟩ hs H3⟩)
theorem Revoke_h {x : Nat} {ts : List Tn} {n s : Int} {rv : List Int} (H : Hs h (BkA x ts n rv :: L)) (bad : ¬ (1 ≤ s ∧ s ≤ 1000000000) → ∀ h', Hs h' (BkA x ts n rv :: L) → Q (.int .i64 1) h')
    (yes : 1 ≤ s ∧ s ≤ 1000000000 → ∀ h', Hs h' (BkA x ts n (rv ++ [s]) :: L) → Q (.int .i64 0) h') : SpecH PP F_token_Book_Revoke [.pointer (some ⟨x, 0, none⟩), .int .i64 s] h Q := by
  obtain ⟨m1, m2, l2, hl, H'⟩ := BkA.isB H
  refine token_Book_Revoke.door (br_false rfl ?_)
  have no : ¬ (1 ≤ s ∧ s ≤ 1000000000) → token_Book_Revoke.J1 (some ⟨x, 0, none⟩) s true Q h := fun hb => token_Book_Revoke.J1_of (br_true rfl (bad hb h H))
  refine (br_iff _ _ _).2 ⟨fun b1 => no (by have := of_decide_eq_true b1; omega), fun b1 => ?_⟩
  have b1 := of_decide_eq_false b1
  dsimp only
  by_cases hu : s ≤ 1000000000
  case neg => rw [decide_eq_true (by omega)]; exact no (by omega)
  rw [decide_eq_false (by omega)]
  refine token_Book_Revoke.J1_of (br_false rfl ⟨_, H'.cell (off := 1) rfl, ?_⟩)
  refine (H'.sel 3 [2, 0, 1]).mset U_map_int_struct K_int s () rfl fun h2 H2 => ?_
  refine yes ⟨by omega, hu⟩ h2 (BkA_iff.2 ⟨m1, m2, _, fun k => ?_, H2.sel 3 [1, 2, 0]⟩)
  rw [mget_mset, List.mem_append, List.mem_singleton]
  by_cases e : s = k
  · simp [e]
  · rw [if_neg e, hl]; simp [Ne.symm e]
theorem chk_set {x : Nat} {c : Clm} {e : Int} {xs : List Value} {K : Value → Heap → Prop} (hx : xs.length = 3) (H : Hs h (pt x T_api_Claim xs :: L)) (kk : ∀ h', Hs h' L → K (.tuple #[c.v, .int .i64 e]) h') :
    wrCells ⟨x, 0, none⟩ 0 [.string c.t, .int .i64 c.u, .int .i64 c.s] (fun h1 => ∃ (a : ByteArray) (b d : Int), rdCells h1 ⟨x, 0, none⟩ 0 [(.string a), (.int .i64 b), (.int .i64 d)] ∧ K (.tuple #[(.agg #[(.string a), (.int .i64 b), (.int .i64 d)]), (.int .i64 e)]) h1) h :=
  Hs.wrs H (fun h' H' => ⟨_, _, _, H'.rdc0, kk h' H'.tl⟩) (by rw [hx]; rfl)
theorem Check_h {x : Nat} {ts : List Tn} {n now : Int} {rv : List Int} {s : ByteArray} (t : TTabL L) (ok : okN ts) (hs : s.size ≤ 2 ^ 20) (H : Hs h (BkA x ts n rv :: L))
    (kk : ∀ h', Hs h' (BkA x ts n rv :: L) → Q (.tuple #[(chkF ts rv s now).1.v, .int .i64 (chkF ts rv s now).2]) h') : SpecH PP F_token_Book_Check [.pointer (some ⟨x, 0, none⟩), .string s, .int .i64 now] h Q := by
  have fin : ∀ c e, chkF ts rv s now = (c, e) → ∀ h', Hs h' (BkA x ts n rv :: L) → Q (.tuple #[c.v, .int .i64 e]) h' := fun c e he h' H' => by have := kk h' H'; rwa [he] at this
  refine token_Book_Check.door ?_
  dsimp only
  have P := H.new (t := T_api_Claim) (cs := #[(.string (⟨#[]⟩ : ByteArray)), (.int .i64 0), (.int .i64 0)]) (xs := Clm.none.l)
  generalize h.size = x0 at *
  generalize h.push (.cells #[(.string (⟨#[]⟩ : ByteArray)), (.int .i64 0), (.int .i64 0)] T_api_Claim (0, 0)) = h1 at *
  refine br_false rfl (TParse_h t.cons.cons hs P (fun c m h2 k H2 => ⟨_, _, _, _, _, rfl, ?_⟩) (fun k h2 H2 => ⟨_, _, _, _, _, rfl, ?_⟩))
  case refine_2 =>
    refine Hs.wrs (xs := Clm.none.l) (H2.new (xs := Clm.none.l)) (fun h3 H3 => br_true rfl ?_)
    exact chk_set (c := Clm.none) (xs := Clm.none.l) rfl H3.m1 fun h4 H4 => fin _ _ (by rw [chkF, prs_no k]) h4 H4.tl
  refine Hs.wrs (xs := Clm.none.l) (H2.new (xs := Clm.none.l)) (fun h3 H3 => br_false rfl ?_)
  have H3 : Hs h3 (pt h2.size T_api_Claim c.l :: pt x0 T_api_Claim Clm.none.l :: BkA x ts n rv :: L) := H3
  generalize h2.size = y at *
  obtain ⟨m1, m2, l2, hl, B⟩ := BkA.isB (H3.sel 3 [2, 0, 1])
  refine ⟨_, B.cell (off := 0) rfl, _, H3.cell (off := 0) rfl, B.m1.lookup2 U_map_string_string K_str (z := .string ⟨#[]⟩) (by kernel_rfl) c.t ?_⟩
  have e0 : chkF ts rv s now = (match mget (sec ts) c.t with
    | none => (Clm.none, 161)
    | some k => if hexL (macB (bodyL c) (sb k)) = sb m then if c.u < now then (Clm.none, 162) else if c.s ∈ rv then (Clm.none, 163) else (c, 0) else (Clm.none, 161)) := by (rw [chkF, prs_yes k]) <;> rfl
  cases hg : mget (sec ts) c.t with
  | none =>
    rw [hg] at e0
    exact ⟨_, _, rfl, br_true rfl (token_Book_Check.J1_of (br_true rfl (chk_set (c := Clm.none) (xs := Clm.none.l) rfl H3.m1 fun h4 H4 => fin _ _ e0 h4 H4.tl)))⟩
  | some sk =>
    rw [hg] at e0
    simp only at e0
    obtain ⟨s1, s2⟩ := sec_ok ok hg
    refine ⟨_, _, rfl, br_false rfl ⟨_, _, _, H3.rdc0, TMac_h (c := c) t.cons.cons.cons k.may (by omega) H3 fun h4 H4 => ⟨_, rfl, Dig_h (macB_len _ _) (macB_lt _ _) H4 fun d h5 hd H5 => ⟨_, rfl, ?_⟩⟩⟩⟩
    by_cases hm : hexL (macB (bodyL c) (sb sk)) = sb m
    case neg =>
      rw [if_neg hm] at e0
      rw [decide_eq_false (fun e => hm (by rw [← hd, e]))]
      exact token_Book_Check.J1_of (br_true rfl (chk_set (c := Clm.none) (xs := Clm.none.l) rfl H5.m1 fun h4 H4 => fin _ _ e0 h4 H4.tl))
    rw [if_pos hm] at e0
    rw [decide_eq_true (sb_inj (by rw [hd, hm]))]
    refine token_Book_Check.J1_of (br_false rfl ⟨_, H5.cell (off := 1) rfl, ?_⟩)
    by_cases hn : c.u < now
    · rw [if_pos hn] at e0
      exact br_true (decide_eq_true hn) (chk_set (c := Clm.none) (xs := Clm.none.l) rfl H5.m1 fun h4 H4 => fin _ _ e0 h4 H4.tl)
    rw [if_neg hn] at e0
    refine br_false (decide_eq_false hn) ?_
    obtain ⟨m1, m2, l2, hl, B5⟩ := BkA.isB (H5.sel 3 [2, 0, 1])
    refine ⟨_, B5.cell (off := 1) rfl, _, H5.cell (off := 2) rfl, ?_⟩
    have last : ∀ {h' : Heap}, Hs h' (pt y T_api_Claim c.l :: pt x0 T_api_Claim Clm.none.l :: BkA x ts n rv :: L) → token_Book_Check.J2 ⟨x0, 0, none⟩ ⟨y, 0, none⟩ (decide (c.s ∈ rv)) Q h' := fun H' => by
      by_cases hr : c.s ∈ rv
      · rw [if_pos hr] at e0
        exact token_Book_Check.J2_of (br_true (decide_eq_true hr) (chk_set (c := Clm.none) (xs := Clm.none.l) rfl H'.m1 fun h4 H4 => fin _ _ e0 h4 H4.tl))
      · rw [if_neg hr] at e0
        exact token_Book_Check.J2_of (br_false (decide_eq_false hr) ⟨_, _, _, H'.rdc0, chk_set (c := c) (xs := Clm.none.l) rfl H'.m1 fun h4 H4 => fin _ _ e0 h4 H4.tl⟩)
    have hd : decide (c.s ∈ rv) = (mget l2 c.s).isSome := by
      have := hl c.s
      cases e : mget l2 c.s with
      | none => rw [e] at this; exact decide_eq_false (by simpa using this)
      | some v => rw [e] at this; exact decide_eq_true (by simpa using this)
    rw [hd] at last
    refine ⟨(B5.sel 3 [2, 0, 1]).lookup2 U_map_int_struct K_int (z := .agg #[]) (by kernel_rfl) c.s ?_, ?_, trivial⟩
    · cases e : mget l2 c.s with
      | none => rw [e] at last; exact ⟨_, rfl, Hs.wrs (xs := []) (H5.new (t := T_struct) (cs := #[]) (xs := [])) (fun h6 H6 => last H6.tl)⟩
      | some v => rw [e] at last; exact ⟨_, rfl, Hs.wrs (xs := []) (H5.new (t := T_struct) (cs := #[]) (xs := [])) (fun h6 H6 => last H6.tl)⟩
    · have P6 := B5.new (t := T_struct) (cs := #[]) (xs := [])
      have back : ∀ {h6 : Heap}, Hs h6 (pt h5.size T_struct [] :: pt x T_token_Book [.map (some m1), .map (some m2), .int .i64 n] :: mp .string .string m1 (sec ts) :: mp (.int .i64) unitV m2 l2 :: pt y T_api_Claim c.l :: pt x0 T_api_Claim Clm.none.l :: L) → Hs h6 (pt y T_api_Claim c.l :: pt x0 T_api_Claim Clm.none.l :: BkA x ts n rv :: L) := fun H6 => (BkA_iff.2 ⟨_, _, _, hl, H6.tl⟩).sel 3 [1, 2, 0]
      refine (P6.sel 6 [3, 0, 1, 2, 4, 5]).lookup2 U_map_int_struct K_int (z := .agg #[]) (by kernel_rfl) c.s ?_
      cases e : mget l2 c.s with
      | none => rw [e] at last; exact ⟨_, rfl, Hs.wrs (xs := []) P6 (fun h6 H6 => last (back H6))⟩
      | some v => rw [e] at last; exact ⟨_, rfl, Hs.wrs (xs := []) P6 (fun h6 H6 => last (back H6))⟩
end Go.Proofs.YtahigbbfilalgaaDoor

set_option linter.unusedVariables false
set_option linter.unusedSimpArgs false
set_option maxRecDepth 4000
namespace Go.Proofs.YtahigbbfilalgaaDoor
open Go Go.HW Go.HW.Dec Go.HW.Spl
variable {h : Heap} {L : List Assn} {Q : Value → Heap → Prop}
theorem hx_ge (d : Nat) : 48 ≤ hx d := by unfold hx; split <;> omega
theorem hx_ok {d : Nat} (h : d < 16) : okx (hx d) = true := by
  have : ∀ d : Fin 16, okx (hx d.val) = true := by decide +kernel
  exact this ⟨d, h⟩
theorem hexL_mem {m : List Nat} (hm : ∀ x ∈ m, x < 256) {y : Nat} (h : y ∈ hexL m) : ∃ d, d < 16 ∧ y = hx d := by
  simp only [hexL, List.mem_flatMap] at h
  obtain ⟨x, hx', h⟩ := h
  have := hm x hx'
  simp only [List.mem_cons, List.mem_nil_iff, or_false] at h
  rcases h with rfl | rfl
  · exact ⟨_, by omega, rfl⟩
  · exact ⟨_, by omega, rfl⟩
/-- What is printed is the claim's text. -/
theorem is_print {c : Clm} {secret s m : ByteArray} (hm : mayB c = true) (hs : sb s = printL c secret) (he : sb m = hexL (macB (bodyL c) (sb secret))) : IsT s c m := by
  have hlen := printL_len hm secret
  have hl := macB_len (bodyL c) (sb secret)
  have hb := macB_lt (bodyL c) (sb secret)
  obtain ⟨h1, h2, h3, h4, h5⟩ := (mayB_iff c).1 hm
  have n1 : 46 ∉ sb c.t := fun e => by
    simp only [shortB, Bool.and_eq_true] at h1
    have := List.all_eq_true.1 h1.2 _ e
    exact absurd this (by decide)
  have n2 : ∀ n, 46 ∉ decN n := fun n e => by have := decN_dig n _ e; omega
  have n3 : 46 ∉ sb m := fun e => by
    rw [he] at e
    obtain ⟨d, hd, e⟩ := hexL_mem hb e
    have := hx_ge d; omega
  refine ⟨by rw [← sb_len, hs]; omega, ?_, hm, by rw [← sb_len, he, hexL_len, hl], ?_⟩
  · rw [hs, printL, ← he, bodyL]
    rw [show sb c.t ++ [46] ++ decN c.u.toNat ++ [46] ++ decN c.s.toNat ++ [46] ++ sb m = sb c.t ++ 46 :: (decN c.u.toNat ++ 46 :: (decN c.s.toNat ++ 46 :: sb m)) by simp]
    rw [spl_at _ _ n1, spl_at _ _ (n2 _), spl_at _ _ (n2 _), spl_none _ n3]
  · rw [List.all_eq_true, he]
    intro y hy
    obtain ⟨d, hd, rfl⟩ := hexL_mem hb hy
    exact hx_ok hd
theorem has_mac (c : Clm) (secret : ByteArray) : ∃ m : ByteArray, sb m = hexL (macB (bodyL c) (sb secret)) :=
  ⟨_, sb_st fun x hx' => by obtain ⟨d, hd, rfl⟩ := hexL_mem (macB_lt _ _) hx'; exact hx_lt hd⟩
def tA : List Tn := [⟨⟨#[97]⟩, ⟨#[107]⟩, 100, 10⟩]
theorem tA_ok : okN tA := by
  refine ⟨fun t ht => ?_, by simp [tA]⟩
  simp only [tA, List.mem_singleton] at ht
  subst ht
  exact ⟨by decide +kernel, by decide, by decide, by decide, by decide, by decide⟩
theorem tA_a : mget (sec tA) ⟨#[97]⟩ = some ⟨#[107]⟩ := by decide +kernel
theorem tA_b : mget (sec tA) ⟨#[98]⟩ = none := by decide +kernel
theorem may_a {n : Int} (h : 1 ≤ n ∧ n ≤ 5) : mayB ⟨⟨#[97]⟩, 9, n⟩ = true := (mayB_iff _).2 ⟨(by decide +kernel : shortB ⟨#[97]⟩ = true), (by decide : (0 : Int) ≤ 9), (by decide : (9 : Int) ≤ 1000000000), by simp only; omega, by simp only; omega⟩
theorem awake_h (t : TTabL L) (H : Hs h L) (kk : ∀ h', Hs h' L → Q (.bool true) h') : SpecH PP F_law16_awake [] h Q := by
  refine law16_awake.door (law16_one.door ?_)
  have P := H.new (t := T_api_Tenant) (cs := #[(.string (⟨#[97]⟩ : ByteArray)), (.string (⟨#[107]⟩ : ByteArray)), (.int .i64 100), (.int .i64 10)]) (xs := tA.flatMap Tn.l)
  refine ⟨_, _, _, rfl, New_h (ts := tA) (n := 1) Gv.pt rfl P (fun e => by omega) (fun _ e => absurd tA_ok e) fun _ _ x h2 H2 => ⟨_, _, rfl, br_false rfl ?_⟩⟩
  have H2 := H2.sel 2 [0]
  refine law16_awake.J1_of (br_false rfl ?_)
  have a1 : ∀ {k : ByteArray}, mget (sec tA) ⟨#[97]⟩ = some k → k = ⟨#[107]⟩ := fun e => by rw [tA_a] at e; injection e with e; exact e.symm
  refine Issue_h t tA_ok (by omega) (by omega) H2 (fun e => by rw [tA_a] at e; cases e) (fun k h' e hb => absurd ⟨by omega, by omega⟩ hb) (fun k s h3 e _ hs H3 => ⟨_, _, rfl, ?_⟩)
  obtain rfl := a1 e
  refine Issue_h t tA_ok (by omega) (by omega) H3 (fun e h4 H4 => ⟨_, _, rfl, ?_⟩) (fun k h' e hb => by rw [tA_b] at e; cases e) (fun k s h3 e _ hs H3 => by rw [tA_b] at e; cases e)
  refine Issue_h t tA_ok (by omega) (by omega) H4 (fun e => by rw [tA_a] at e; cases e) (fun k h5 e hb H5 => ⟨_, _, rfl, ?_⟩) (fun k s h3 e hb => absurd hb (by omega))
  refine Issue_h t tA_ok (by omega) (by omega) H5 (fun e => by rw [tA_a] at e; cases e) (fun k h' e hb => absurd ⟨by omega, by omega⟩ hb) (fun k s2 h6 e _ hs2 H6 => ⟨_, _, rfl, ?_⟩)
  obtain rfl := a1 e
  obtain ⟨m, hm⟩ := has_mac ⟨⟨#[97]⟩, 9, 0 + 1⟩ ⟨#[107]⟩
  obtain ⟨m2, hm2⟩ := has_mac ⟨⟨#[97]⟩, 9, 0 + 1 + 1⟩ ⟨#[107]⟩
  have i1 := is_print (may_a (by omega)) hs hm
  have i2 := is_print (may_a (by omega)) hs2 hm2
  have sz1 := i1.sz
  have sz2 := i2.sz
  have c1 : chkF tA [] s 9 = (⟨⟨#[97]⟩, 9, 1⟩, 0) := by rw [chkF, prs_yes i1]; simp only [tA_a, hm, if_true]; rfl
  have c2 : chkF tA [] s 10 = (Clm.none, 162) := by rw [chkF, prs_yes i1]; simp only [tA_a, hm, if_true]; rfl
  have c3 : chkF tA ([] ++ [1]) s 9 = (Clm.none, 163) := by rw [chkF, prs_yes i1]; simp only [tA_a, hm, if_true]; rfl
  refine Check_h (now := 9) t tA_ok (by omega) H6 fun h7 H7 => ?_
  rw [c1]
  refine ⟨_, _, _, _, rfl, Hs.wrs (xs := Clm.none.l) (H7.new (xs := Clm.none.l)) fun h8 H8 => ?_⟩
  have H8 : Hs h8 (pt h7.size T_api_Claim (Clm.mk ⟨#[97]⟩ 9 1).l :: BkA x tA (0 + 1 + 1) [] :: L) := H8
  generalize h7.size = y1 at *
  refine Check_h (now := 10) (L := pt y1 T_api_Claim (Clm.mk ⟨#[97]⟩ 9 1).l :: L) t.cons tA_ok (by omega) H8.m1 fun h9 H9 => ?_
  rw [c2]
  refine ⟨_, _, _, _, rfl, Hs.wrs (xs := Clm.none.l) (H9.new (xs := Clm.none.l)) fun h10 H10 => ?_⟩
  have H10 : Hs h10 (BkA x tA (0 + 1 + 1) [] :: pt y1 T_api_Claim (Clm.mk ⟨#[97]⟩ 9 1).l :: L) := H10.tl
  refine TParse_h t.cons.cons (by omega) H10 (fun c mm h11 k H11 => ⟨_, _, _, _, _, rfl, ?_⟩) (fun k => absurd i2 (k _ _))
  obtain ⟨rfl, rfl⟩ := k.uniq i2
  refine Hs.wrs (xs := Clm.none.l) (H11.new (xs := Clm.none.l)) fun h12 H12 => ?_
  have H12 : Hs h12 (pt h11.size T_api_Claim (Clm.mk ⟨#[97]⟩ 9 2).l :: BkA x tA (0 + 1 + 1) [] :: pt y1 T_api_Claim (Clm.mk ⟨#[97]⟩ 9 1).l :: L) := H12
  generalize h11.size = y2 at *
  refine br_true rfl (br_true rfl (br_true rfl (br_true rfl (br_true rfl (br_true rfl ?_)))))
  refine law16_awake.J2_of (Revoke_h (H12.sel 3 [1, 0, 2]) (fun hb => absurd (by omega) hb) fun _ h13 H13 => ⟨_, rfl, ?_⟩)
  refine Check_h (now := 9) t.cons.cons tA_ok (by omega) H13 fun h14 H14 => ?_
  rw [c3]
  refine ⟨_, _, _, _, rfl, Hs.wrs (xs := Clm.none.l) (H14.new (xs := Clm.none.l)) fun h15 H15 => ?_⟩
  have H15 : Hs h15 (pt y2 T_api_Claim (Clm.mk ⟨#[97]⟩ 9 2).l :: pt y1 T_api_Claim (Clm.mk ⟨#[97]⟩ 9 1).l :: L) := H15.tl.tl
  refine br_true rfl ⟨_, _, _, H15.m1.rdc0, br_true rfl ⟨_, _, _, H15.rdc0, br_true rfl (br_true ?_ (br_true rfl (kk h15 H15.tl.tl)))⟩⟩
  rw [i2.ml]; rfl
end Go.Proofs.YtahigbbfilalgaaDoor

set_option linter.unusedVariables false
set_option linter.unusedSimpArgs false
set_option maxRecDepth 4000
namespace Go.Proofs.YtahigbbfilalgaaDoor
open Go Go.HW Go.HW.Dec Go.HW.Spl
variable {h : Heap} {L : List Assn} {Q : Value → Heap → Prop}
theorem spl_body {c : Clm} (hm : mayB c = true) {x : List Nat} (n3 : 46 ∉ x) : spl (bodyL c ++ [46] ++ x) = [sb c.t, decN c.u.toNat, decN c.s.toNat, x] := by
  obtain ⟨h1, h2, h3, h4, h5⟩ := (mayB_iff c).1 hm
  have n1 : 46 ∉ sb c.t := fun e => by
    simp only [shortB, Bool.and_eq_true] at h1
    have := List.all_eq_true.1 h1.2 _ e
    exact absurd this (by decide)
  have n2 : ∀ n, 46 ∉ decN n := fun n e => by have := decN_dig n _ e; omega
  rw [bodyL, show sb c.t ++ [46] ++ decN c.u.toNat ++ [46] ++ decN c.s.toNat ++ [46] ++ x = sb c.t ++ 46 :: (decN c.u.toNat ++ 46 :: (decN c.s.toNat ++ 46 :: x)) by simp]
  rw [spl_at _ _ n1, spl_at _ _ (n2 _), spl_at _ _ (n2 _), spl_none _ n3]
theorem IsT.join {s : ByteArray} {c : Clm} {m : ByteArray} (k : IsT s c m) : sb s = bodyL c ++ [46] ++ sb m := by
  have n3 : 46 ∉ sb m := fun e => by
    have := List.all_eq_true.1 k.mx _ e
    exact absurd this (by decide)
  exact spl_inj _ _ (by rw [k.sp, spl_body k.may n3])
theorem IsT.len {s : ByteArray} {c : Clm} {m : ByteArray} (k : IsT s c m) : s.size = (bodyL c).length + 65 := by
  rw [← sb_len, k.join, List.length_append, List.length_append, sb_len, k.ml]; rfl
/-- The parts of a text: all but the digits, and the digits. -/
theorem IsT.head {s : ByteArray} {c : Clm} {m : ByteArray} (k : IsT s c m) : sb (s.extract 0 (s.size - 64)) = bodyL c ++ [46] := by
  have hl := k.len
  rw [sb_extract, k.join, List.drop_zero, List.take_left']
  rw [List.length_append, List.length_singleton]; omega
theorem IsT.tail {s : ByteArray} {c : Clm} {m : ByteArray} (k : IsT s c m) : s.extract (s.size - 64) s.size = m := by
  have hl := k.len
  refine sb_inj ?_
  rw [sb_extract, k.join, List.drop_left' (by rw [List.length_append, List.length_singleton]; omega), List.take_of_length_le (by rw [sb_len, k.ml]; omega)]
theorem nil_none (c : Clm) (m : ByteArray) : ¬ IsT ⟨#[]⟩ c m := fun k => by
  have := k.len
  have e : (⟨#[]⟩ : ByteArray).size = 0 := rfl
  omega
theorem TokenNil_spec {s : ByteArray} {n : Int} (tab : TTab h) (HQ : ∀ h', ExtB h.size h h' → Q (.bool true) h') : SpecH PP F_law16_TokenNil [.string s, .int .i64 n] h Q := by
  have t : TTabL [ro h] := TTabL.ro tab
  have H := Hs.start h
  have fin : ∀ h', Hs h' [ro h] → Q (.bool true) h' := fun h' H' => HQ h' H'.ro_below
  refine law16_TokenNil.door ((br_iff _ _ _).2 ⟨fun _ => awake_h t H fun h2 H2 => ⟨_, rfl, fin h2 H2⟩, fun b1 => ?_⟩)
  refine token_Book_Issue.door (br_true rfl ⟨_, _, rfl, token_Book_Check.door ?_⟩)
  have P := H.new (t := T_api_Claim) (cs := #[(.string (⟨#[]⟩ : ByteArray)), (.int .i64 0), (.int .i64 0)]) (xs := Clm.none.l)
  refine br_true rfl (Hs.wrs (xs := Clm.none.l) P fun h2 H2 => ⟨_, _, _, H2.rdc0, _, _, _, _, rfl, ?_⟩)
  refine Hs.wrs (xs := Clm.none.l) (H2.tl.new (xs := Clm.none.l)) fun h3 H3 => awake_h t.cons H3 fun h4 H4 => ⟨_, rfl, ?_⟩
  have H4 : Hs h4 (pt h2.size T_api_Claim Clm.none.l :: [ro h]) := H4
  refine br_true rfl (br_true rfl (br_true rfl ⟨_, _, _, H4.rdc0, br_true rfl (br_true rfl ?_)⟩))
  exact token_Book_Revoke.door (br_true rfl ⟨_, rfl, fin h4 H4.tl⟩)
theorem round2 {s : ByteArray} (t : TTabL L) (hs : s.size ≤ 2 ^ 20) (H : Hs h L) (kk : ∀ h', Hs h' L → Q (.bool true) h') : law16_TokenRound.J2 s false Q h := by
  refine law16_TokenRound.J2_of (br_false rfl (TParse_h t hs H (fun c m h2 k H2 => ⟨_, _, _, _, _, rfl, ?_⟩) (fun no h2 H2 => ⟨_, _, _, _, _, rfl, ?_⟩)))
  · refine Hs.wrs (xs := Clm.none.l) (H2.new (xs := Clm.none.l)) fun h3 H3 => ?_
    have H3 : Hs h3 (pt h2.size T_api_Claim c.l :: L) := H3
    have ok : okP c ⟨#[107]⟩ = true := by rw [okP, k.may]; rfl
    refine br_false rfl ⟨_, _, _, H3.rdc0, Print_h (c := c) t.cons H3 (fun e => by rw [ok] at e; cases e) fun _ u h4 hu H4 => ⟨_, _, rfl, awake_h t.cons H4 fun h5 H5 => ⟨_, rfl, ?_⟩⟩⟩
    obtain ⟨m2, hm2⟩ := has_mac c ⟨#[107]⟩
    have k2 := is_print k.may hu hm2
    have l1 := k.len
    have l2 := k2.len
    have es : ((u.size : Int) == (s.size : Int)) = true := by rw [l1, l2]; exact beq_self_eq_true _
    have w1 : IntKind.i64.wrap ((u.size : Int) - 64) = ((u.size - 64 : Nat) : Int) := by rw [wrap_i64_z (by omega) (by omega)]; omega
    have w2 : IntKind.i64.wrap ((s.size : Int) - 64) = ((s.size - 64 : Nat) : Int) := by rw [wrap_i64_z (by omega) (by omega)]; omega
    refine br_true rfl (br_true rfl (br_true es ?_))
    dsimp only
    rw [w1, w2]
    refine hwp_ssub (lo := none) (hi := some (.int _ _)) (by kernel_rfl) trivial trivial (by simp [bnd]) (by simp [bnd]) (by simp only [bnd]; omega) ⟨_, rfl, ?_⟩
    refine hwp_ssub (lo := none) (hi := some (.int _ _)) (by kernel_rfl) trivial trivial (by simp [bnd]) (by simp [bnd]) (by simp only [bnd]; omega) ⟨_, rfl, ?_⟩
    simp only [bnd, Int.toNat_natCast, Int.toNat_zero]
    refine br_true (decide_eq_true (sb_inj (by rw [k2.head, k.head]))) ?_
    refine hwp_ssub (lo := some (.int _ _)) (hi := none) (by kernel_rfl) trivial trivial (by simp only [bnd]; omega) (by simp only [bnd]; omega) (by simp [bnd]) ⟨_, rfl, ?_⟩
    have fin2 : ∀ b : Bool, b = true → Q (.bool b) h5 := fun b e => e ▸ kk h5 H5.tl
    exact fin2 _ (decide_eq_true k.tail.symm)
  · refine Hs.wrs (xs := Clm.none.l) (H2.new (xs := Clm.none.l)) fun h3 H3 => ?_
    have H3 : Hs h3 (pt h2.size T_api_Claim Clm.none.l :: L) := H3
    refine br_true rfl (awake_h t.cons H3 fun h4 H4 => ⟨_, rfl, br_true rfl (br_true rfl ⟨_, _, _, H4.rdc0, br_true rfl (kk h4 H4.tl)⟩)⟩)
theorem TokenRound_spec {c : Clm} {secret s : ByteArray} (tab : TTab h) (HQ : ∀ h', ExtB h.size h h' → Q (.bool true) h') : SpecH PP F_law16_TokenRound [c.v, .string secret, .string s] h Q := by
  have t : TTabL [ro h] := TTabL.ro tab
  have H := Hs.start h
  have fin : ∀ h', Hs h' [ro h] → Q (.bool true) h' := fun h' H' => HQ h' H'.ro_below
  refine law16_TokenRound.door ?_
  dsimp only
  have P := H.new (t := T_api_Claim) (cs := #[(.string c.t), (.int .i64 c.u), (.int .i64 c.s)]) (xs := c.l)
  generalize h.size = y at *
  generalize h.push (.cells #[(.string c.t), (.int .i64 c.u), (.int .i64 c.s)] T_api_Claim (0, 0)) = h1 at *
  have big : law16_TokenRound.J1 secret s ⟨y, 0, none⟩ true Q h1 := law16_TokenRound.J1_of (br_true rfl (awake_h t.cons P fun h2 H2 => ⟨_, rfl, fin h2 H2.tl⟩))
  refine ⟨_, P.cell (off := 0) rfl, (br_iff _ _ _).2 ⟨fun _ => big, fun b1 => (br_iff _ _ _).2 ⟨fun _ => big, fun b2 => ?_⟩⟩⟩
  have b2 := of_decide_eq_false b2
  by_cases b3 : s.size ≤ 1048576
  case neg => rw [decide_eq_true (by omega)]; exact big
  rw [decide_eq_false (by omega)]
  refine law16_TokenRound.J1_of (br_false rfl ⟨_, _, _, P.rdc0, ?_⟩)
  have last : ∀ {h' : Heap}, Hs h' (pt y T_api_Claim c.l :: [ro h]) → law16_TokenRound.J2 s false Q h' := fun H' => round2 t.cons (by omega) H' fun h2 H2 => fin h2 H2.tl
  by_cases ok : okP c secret = true
  · refine Print_h (c := c) t.cons P (fun e => by rw [ok] at e; cases e) (fun _ u h2 hu H2 => ⟨_, _, rfl, ?_⟩)
    have may : mayB c = true := by simp only [okP, Bool.and_eq_true] at ok; exact ok.1
    obtain ⟨m2, hm2⟩ := has_mac c secret
    have k2 := is_print may hu hm2
    have l2 := k2.len
    have hbl : 1 ≤ (bodyL c).length := by simp only [bodyL, List.length_append, List.length_singleton]; omega
    have sz := k2.sz
    refine TParse_h t.cons (by omega) H2 (fun c' m h3 k H3 => ⟨_, _, _, _, _, rfl, ?_⟩) (fun no => absurd k2 (no _ _))
    obtain ⟨rfl, rfl⟩ := k.uniq k2
    refine Hs.wrs (xs := Clm.none.l) (H3.new (xs := Clm.none.l)) fun h4 H4 => ?_
    have H4 : Hs h4 (pt h3.size T_api_Claim c'.l :: pt y T_api_Claim c'.l :: [ro h]) := H4
    refine br_false rfl (br_false rfl (br_true rfl ⟨_, _, _, H4.rdc0, _, _, _, H4.m1.rdc0, br_false (by simp) (br_false (decide_eq_false (by omega)) ?_)⟩))
    have w1 : IntKind.i64.wrap ((u.size : Int) - 64) = ((u.size - 64 : Nat) : Int) := by rw [wrap_i64_z (by omega) (by omega)]; omega
    dsimp only
    rw [w1]
    refine hwp_ssub (lo := some (.int _ _)) (hi := none) (by kernel_rfl) trivial trivial (by simp only [bnd]; omega) (by simp only [bnd]; omega) (by simp [bnd]) ⟨_, rfl, ?_⟩
    have fin2 : ∀ b : Bool, b = false → law16_TokenRound.J2 s b Q h4 := fun b e => e ▸ last H4.tl
    exact fin2 _ (show (!decide (u.extract (u.size - 64) u.size = m)) = false by rw [decide_eq_true k.tail]; rfl)
  · have ok : okP c secret = false := by simpa using ok
    refine Print_h (c := c) t.cons P (fun _ h2 H2 => ⟨_, _, rfl, ?_⟩) (fun e => by rw [ok] at e; cases e)
    refine TParse_h t.cons (by decide) H2 (fun c' m h3 k H3 => absurd k (nil_none _ _)) (fun _ h3 H3 => ⟨_, _, _, _, _, rfl, ?_⟩)
    refine Hs.wrs (xs := Clm.none.l) (H3.new (xs := Clm.none.l)) fun h4 H4 => ?_
    exact br_true rfl (br_false rfl (br_false rfl (br_false rfl (last H4.tl))))
end Go.Proofs.YtahigbbfilalgaaDoor

set_option linter.unusedVariables false
set_option linter.unusedSimpArgs false
set_option maxRecDepth 4000
namespace Go.Proofs.YtahigbbfilalgaaDoor
open Go Go.HW Go.HW.Dec Go.HW.Spl
variable {h : Heap} {L : List Assn} {Q : Value → Heap → Prop}
theorem prs_some {s : ByteArray} {c : Clm} {m : ByteArray} (e : prs s = some (c, m)) : IsT s c m := by
  unfold prs at e
  split at e
  · rename_i k; have := k.choose_spec; injection e with e; rw [e] at this; exact this
  · cases e
theorem body_inj {c c' : Clm} (k : mayB c = true) (k' : mayB c' = true) (e : bodyL c = bodyL c') : c = c' := by
  have e1 := spl_body (c := c) (x := []) k (by simp)
  rw [e, spl_body k' (by simp)] at e1
  simp only [List.cons.injEq, and_true] at e1
  obtain ⟨a1, a2, a3⟩ := e1
  obtain ⟨_, p1, p2, p3, p4⟩ := (mayB_iff c).1 k
  obtain ⟨_, q1, q2, q3, q4⟩ := (mayB_iff c').1 k'
  have a2 := decN_inj a2; have a3 := decN_inj a3
  cases c; cases c'
  simp only at a1 a2 a3 p1 p3 q1 q3
  rw [sb_inj a1]
  congr 1 <;> omega
section
variable {ts : List Tn} {rv : List Int} {C : Clm} {sk s m o : ByteArray} {now : Int}
theorem other_ok (hC : IsT s C m) (hm : sb m = hexL (macB (bodyL C) (sb sk))) (hg : mget (sec ts) C.t = some sk) (hne : sb o ≠ sb s) (h0 : (chkF ts rv o now).2 = 0) : (chkF ts rv o now).1 ≠ C ∧ (chkF ts rv o now).1 ≠ Clm.none := by
  unfold chkF at h0 ⊢
  cases e : prs o with
  | none => rw [e] at h0; simp at h0
  | some p =>
    obtain ⟨c', m'⟩ := p
    have k := prs_some e
    rw [e] at h0
    simp only at h0 ⊢
    cases e2 : mget (sec ts) c'.t with
    | none => rw [e2] at h0; simp at h0
    | some q =>
      rw [e2] at h0
      simp only at h0 ⊢
      by_cases e3 : hexL (macB (bodyL c') (sb q)) = sb m'
      · rw [if_pos e3] at h0 ⊢
        by_cases e4 : c'.u < now
        · rw [if_pos e4] at h0; simp at h0
        · rw [if_neg e4] at h0 ⊢
          by_cases e5 : c'.s ∈ rv
          · rw [if_pos e5] at h0; simp at h0
          · rw [if_neg e5]
            refine ⟨fun ec => ?_, fun ec => ?_⟩
            · have ec : c' = C := ec
              subst ec
              rw [hg] at e2; cases e2
              exact hne (by rw [k.join, hC.join, hm, ← e3])
            · have ec : c' = Clm.none := ec
              have := (mayB_iff c').1 k.may
              rw [ec] at this
              exact absurd this.2.2.2.1 (by decide)
      · rw [if_neg e3] at h0; simp at h0
theorem other_tail (hC : IsT s C m) (hm : sb m = hexL (macB (bodyL C) (sb sk))) (hg : mget (sec ts) C.t = some sk) (hne : sb o ≠ sb s) (hl : o.size = s.size) (hh : (sb o).take (s.size - 64) = (sb s).take (s.size - 64)) :
    (chkF ts rv o now).2 = 160 ∨ (chkF ts rv o now).2 = 161 := by
  unfold chkF
  cases e : prs o with
  | none => exact .inl rfl
  | some p =>
    obtain ⟨c', m'⟩ := p
    have k := prs_some e
    have a1 := k.head
    have a2 := hC.head
    rw [sb_extract, List.drop_zero, Nat.sub_zero] at a1 a2
    rw [hl, hh, a2] at a1
    have ec := body_inj hC.may k.may (List.append_cancel_right a1)
    subst ec
    simp only [hg]
    rw [if_neg]
    · exact .inr rfl
    · intro e3; exact hne (by rw [k.join, hC.join, hm, ← e3])
end
/-- One byte changed. -/
theorem one_byte {s a b d : ByteArray} {k x : Nat} (hk : k < s.size) (ha : a = s.extract 0 k) (hb : sb b = [x]) (hd : d = s.extract (k + 1) s.size) : sb (a ++ b ++ d) = (sb s).set k x ∧ (a ++ b ++ d).size = s.size := by
  have e : sb (a ++ b ++ d) = (sb s).set k x := by
    subst ha hd
    rw [sb_app, sb_app, sb_extract, sb_extract, hb, List.drop_zero, Nat.sub_zero, List.take_of_length_le (l := (sb s).drop (k + 1)) (by rw [List.length_drop, sb_len]; exact Nat.le_refl _)]
    rw [List.set_eq_take_append_cons_drop, if_pos (by rw [sb_len]; exact hk), List.append_assoc]; rfl
  exact ⟨e, by rw [← sb_len, e, List.length_set, sb_len]⟩
theorem cmp_ne {a b : Clm} (e : a ≠ b) : (decide (a.t = b.t) && ((a.u == b.u) && ((a.s == b.s) && true))) = false := by
  rw [Bool.eq_false_iff]
  intro q
  simp only [Bool.and_eq_true, decide_eq_true_iff, beq_iff_eq, and_true] at q
  apply e
  cases a; cases b
  simp only at q
  rw [q.1, q.2.1, q.2.2]
theorem tn_at {ts : List Tn} {a : Option Addr} {c : Nat} {k : IntKind} {i : Nat} {M : List Assn} (g : Gv M a (ts.flatMap Tn.l)) (H : Hs h M) (hi : i < ts.length) {R : Addr → Heap → Prop}
    (K : ∀ t, rdCells h t 0 ts[i].l → R t h) : hwp PP (Instr.indexAt T_sl_api_Tenant (.slice a ts.length c) (.int k (i : Int))) (fun u h1 => ∃ t, u = .pointer (some t) ∧ R t h1) h :=
  idxf E_sl_api_Tenant (x := ts[i]) (g _ H) (fun _ => rfl) (by omega) (by omega) (by omega) (by rw [Int.toNat_natCast]; exact List.getElem?_eq_getElem hi) K
theorem rd_l {t : Addr} {u : Tn} (r : rdCells h t 0 u.l) : cellH h t = some (.string u.n) ∧ cellH h (t.add 1) = some (.string u.s) := by
  have r : cellH h (t.add 0) = some (.string u.n) ∧ cellH h (t.add 1) = some (.string u.s) ∧ cellH h (t.add 2) = some (.int .i64 u.b) ∧ cellH h (t.add 3) = some (.int .i64 u.e) ∧ True := r
  exact ⟨by simpa [Addr.add] using r.1, r.2.1⟩
section
variable {ts : List Tn}
theorem light_loop {xa : Option Addr} {xc : Nat} (g : Gv L xa (ts.flatMap Tn.l)) (hm : ts.length ≤ 1000) (fin : ∀ b h', Hs h' L → Q (.bool b) h') :
    ∀ (k i : Nat) {h : Heap}, i + k = ts.length → Hs h L → law16_light.L1 xa ts.length xc i (law16_light.K1 Q) h := by
  intro k
  induction k with
  | zero => intro i h hi H; exact law16_light.L1_of (br_false (decide_eq_false (by omega)) (law16_light.L1_X0 (fin true h H)))
  | succ k ih =>
    intro i h hi H
    have hl : i < ts.length := by omega
    have E : ∀ {R : Addr → Heap → Prop}, (∀ t, cellH h t = some (.string ts[i].n) → cellH h (t.add 1) = some (.string ts[i].s) → R t h) → hwp PP (Instr.indexAt T_sl_api_Tenant (.slice xa ts.length xc) (.int .i64 (i : Int))) (fun u h1 => ∃ t, u = .pointer (some t) ∧ R t h1) h := fun r =>
      tn_at g H hl fun t ht => r t (rd_l ht).1 (rd_l ht).2
    have j1 : ∀ b : Bool, law16_light.J1 xa ts.length xc i b (law16_light.K1 Q) h := fun b => law16_light.J1_of ((br_iff _ _ _).2 ⟨fun _ => law16_light.L1_Xret (fin false h H), fun _ => by
      dsimp only
      rw [inc (by omega)]
      exact ih (i + 1) (by omega) H⟩)
    exact law16_light.L1_of (br_true (decide_eq_true (by omega)) (E fun t c1 c2 => ⟨_, c1, (br_iff _ _ _).2 ⟨fun _ => j1 _, fun _ => E fun t c1 c2 => ⟨_, c2, j1 _⟩⟩⟩))
theorem light_h {xa : Option Addr} {xc : Nat} (g : Gv L xa (ts.flatMap Tn.l)) (H : Hs h L) (fin : ∀ b h', Hs h' L → Q (.bool b) h') : SpecH PP F_law16_light [.slice xa ts.length xc] h Q := by
  refine law16_light.door ((br_iff _ _ _).2 ⟨fun _ => fin false h H, fun b => ?_⟩)
  have b := of_decide_eq_false b
  exact light_loop g (by omega) fin ts.length 0 (by omega) H
theorem neg_idx {z : Int} (h0 : -9223372036854775808 ≤ z) (h1 : z < 0) : IntKind.i64.wrap (0 - IntKind.i64.wrap (z + 1)) = ((-(z + 1)).toNat : Int) := by
  rw [wrap_i64_z (z := z + 1) (by omega) (by omega), wrap_i64_z (by omega) (by omega)]; omega
theorem tmodN (a n : Nat) : Int.tmod (a : Int) (n : Int) = ((a % n : Nat) : Int) := by
  rw [Int.tmod_eq_emod_of_nonneg (by omega)]; omega
variable {xb y : Nat} {C cc : Clm} {sk s m : ByteArray} {u now : Int}
theorem hold5 (t : TTabL L) (ok : okN ts) (hC : IsT s C m) (hm : sb m = hexL (macB (bodyL C) (sb sk))) (hg : mget (sec ts) C.t = some sk) (hs1 : C.s = 1) (hu : C.u = u) (kk : ∀ h', Hs h' L → Q (.bool true) h') (H : Hs h (BkA xb ts (0 + 1) [] :: L)) :
    law16_TokenHolds.J5 u now (some ⟨xb, 0, none⟩) s false Q h := by
  refine law16_TokenHolds.J5_of (br_false rfl (Revoke_h H (fun e => absurd (by omega) e) fun _ h2 H2 => ⟨_, rfl, ?_⟩))
  have sz := hC.sz
  have e : ∀ z : Int, z ≤ u → chkF ts ([] ++ [1]) s z = (Clm.none, 163) := fun z hz => by
    rw [chkF, prs_yes hC]
    simp only [hg, hm, if_true]
    rw [if_neg (by omega), if_pos (by rw [hs1]; simp)]
  dsimp only
  refine Check_h t ok (by omega) H2 fun h3 H3 => ?_
  rw [e _ (by split <;> omega)]
  refine ⟨_, _, _, _, rfl, Hs.wrs (xs := Clm.none.l) (H3.new (xs := Clm.none.l)) fun h4 H4 => awake_h t H4.tl.tl fun h5 H5 => ⟨_, rfl, br_true rfl (br_true rfl (kk h5 H5))⟩⟩
theorem hold4 (t : TTabL L) (ok : okN ts) (hC : IsT s C m) (hm : sb m = hexL (macB (bodyL C) (sb sk))) (hg : mget (sec ts) C.t = some sk) (hs1 : C.s = 1) (hu : C.u = u) (hcc : cc = C ∨ cc = Clm.none) (kk : ∀ h', Hs h' L → Q (.bool true) h') {a v : Nat} (ha : a < 2 ^ 63) (hv : v < 256)
    (H : Hs h (pt y T_api_Claim cc.l :: BkA xb ts (0 + 1) [] :: L)) : law16_TokenHolds.J4 u now a v (some ⟨xb, 0, none⟩) s ⟨y, 0, none⟩ Q h := by
  have l := hC.len
  have sz := hC.sz
  have hk : a % s.size < s.size := Nat.mod_lt _ (by omega)
  refine law16_TokenHolds.J4_of ?_
  dsimp only
  rw [decide_eq_false (show ¬ ((s.size : Nat) : Int) = 0 by omega)]
  refine br_true rfl ?_
  rw [tmodN]
  generalize a % s.size = k at *
  refine hwp_ssub (lo := none) (hi := some (.int _ _)) (by kernel_rfl) trivial trivial (by simp [bnd]) (by simp [bnd]) (by simp only [bnd]; omega) ⟨_, rfl, ?_⟩
  refine hwp_sidx (by kernel_rfl) hk ⟨_, rfl, ?_⟩
  have hxl : k < (sb s).length := by rw [sb_len]; exact hk
  have hx : (sb s)[k] < 256 := sb_lt (List.getElem_mem hxl)
  rw [xor_u8 hx hv]
  have hxv : (sb s)[k] ^^^ v < 256 := Nat.xor_lt_two_pow (n := 8) hx hv
  have P := H.new (t := T_uint8) (cs := #[.int .u8 (((sb s)[k] ^^^ v : Nat) : Int)]) (xs := nV [(sb s)[k] ^^^ v])
  have rd : Rd _ (some ⟨h.size, 0, none⟩) (nV [(sb s)[k] ^^^ v]) := Gv.pt _ P
  refine hwp_b2s (e := T_uint8) (bs := [(sb s)[k] ^^^ v]) (by kernel_rfl) (by kernel_rfl) (by kernel_rfl) rd rfl (by simp) ⟨_, rfl, ?_⟩
  have hb : sb (st [(sb s)[k] ^^^ v]) = [(sb s)[k] ^^^ v] := sb_st (by simpa using hxv)
  have hbs : (st [(sb s)[k] ^^^ v]).size = 1 := st_size _
  simp only [bnd, Int.toNat_natCast, Int.toNat_zero]
  have hes : (s.extract 0 k).size ≤ s.size := by rw [← sb_len, sb_extract, List.length_take, List.length_drop, sb_len]; omega
  refine br_true (decide_eq_true (by omega)) ?_
  rw [inc (by omega)]
  refine hwp_ssub (lo := some (.int _ _)) (hi := none) (by kernel_rfl) trivial trivial (by simp only [bnd]; omega) (by simp only [bnd]; omega) (by simp [bnd]) ⟨_, rfl, ?_⟩
  simp only [bnd, Int.toNat_natCast]
  have hds : (s.extract (k + 1) s.size).size ≤ s.size := by rw [← sb_len, sb_extract, List.length_take, List.length_drop, sb_len]; omega
  refine br_true (decide_eq_true (by rw [ByteArray.size_append]; omega)) ?_
  obtain ⟨eo, lo⟩ := one_byte (s := s) hk rfl hb rfl
  generalize s.extract 0 k ++ st [(sb s)[k] ^^^ v] ++ s.extract (k + 1) s.size = o at *
  have P1 : Hs _ (BkA xb ts (0 + 1) [] :: pt y T_api_Claim cc.l :: L) := P.tl.m1
  refine Check_h t.cons ok (by omega) P1 fun h6 H6 => ⟨_, _, _, _, rfl, ?_⟩
  have ne : v ≠ 0 → sb o ≠ sb s := fun h0 e => by
    rw [eo] at e
    have : (sb s)[k] ^^^ v = (sb s)[k] := by
      have := congrArg (fun l => l[k]?) e
      simpa [hxl] using this
    have : v = 0 := by
      have h2 := congrArg (fun z => (sb s)[k] ^^^ z) this
      simpa [← Nat.xor_assoc] using h2
    exact h0 this
  have F2 : v ≠ 0 → (chkF ts [] o now).2 = 0 → (chkF ts [] o now).1 ≠ cc := fun h0 e => by
    have := other_ok (rv := []) (now := now) hC hm hg (ne h0) e
    rcases hcc with rfl | rfl
    · exact this.1
    · exact this.2
  have F1 : v ≠ 0 → s.size - 64 ≤ k → (chkF ts [] o now).2 = 160 ∨ (chkF ts [] o now).2 = 161 := fun h0 hk2 =>
    other_tail hC hm hg (ne h0) lo (by rw [eo, List.take_set_of_le hk2])
  generalize chkF ts [] o now = r at *
  obtain ⟨rc, re⟩ := r
  refine Hs.wrs (xs := Clm.none.l) (H6.new (xs := Clm.none.l)) fun h8 H8 => ?_
  have H8 : Hs h8 (pt h6.size T_api_Claim rc.l :: BkA xb ts (0 + 1) [] :: pt y T_api_Claim cc.l :: L) := H8
  generalize h6.size = z at *
  have j5 : law16_TokenHolds.J5 u now (some ⟨xb, 0, none⟩) s false Q h8 := hold5 t ok hC hm hg hs1 hu kk (H8.sel 3 [1])
  have vz : ((v : Int) != 0) = true → v ≠ 0 := fun e h0 => by subst h0; cases e
  have w1 : IntKind.i64.wrap ((s.size : Int) - 64) = ((s.size - 64 : Nat) : Int) := by rw [wrap_i64_z (by omega) (by omega)]; omega
  have tail : br (re == 0) (br ((v : Int) != 0) (∃ (a : ByteArray) (b c : Int), rdCells h8 ⟨z, 0, none⟩ 0 [(.string a), (.int .i64 b), (.int .i64 c)] ∧ ∃ (a' : ByteArray) (b' c' : Int), rdCells h8 ⟨y, 0, none⟩ 0 [(.string a'), (.int .i64 b'), (.int .i64 c')] ∧
      law16_TokenHolds.J5 u now (some ⟨xb, 0, none⟩) s (decide (a = a') && ((b == b') && ((c == c') && true))) Q h8) (law16_TokenHolds.J5 u now (some ⟨xb, 0, none⟩) s false Q h8)) (law16_TokenHolds.J5 u now (some ⟨xb, 0, none⟩) s false Q h8) := by
    refine (br_iff _ _ _).2 ⟨fun e1 => (br_iff _ _ _).2 ⟨fun e2 => ⟨_, _, _, H8.rdc0, _, _, _, (H8.sel 3 [2]).rdc0, ?_⟩, fun _ => j5⟩, fun _ => j5⟩
    rw [cmp_ne (F2 (vz e2) (by simpa using e1))]
    exact j5
  dsimp only
  rw [w1]
  refine (br_iff _ _ _).2 ⟨fun e1 => (br_iff _ _ _).2 ⟨fun e2 => (br_iff _ _ _).2 ⟨fun e3 => (br_iff _ _ _).2 ⟨fun e4 => ?_, fun _ => tail⟩, fun _ => tail⟩, fun _ => tail⟩, fun _ => tail⟩
  have e1 := of_decide_eq_true e1
  rcases F1 (vz e2) (by omega) with q | q
  · have q : re = 160 := q
    subst q; cases e4
  · have q : re = 161 := q
    subst q; cases e3
theorem hold3 (t : TTabL L) (ok : okN ts) (hC : IsT s C m) (hm : sb m = hexL (macB (bodyL C) (sb sk))) (hg : mget (sec ts) C.t = some sk) (hs1 : C.s = 1) (hu : C.u = u) (hcc : cc = C ∨ cc = Clm.none) (kk : ∀ h', Hs h' L → Q (.bool true) h') {z : Int} {v : Nat} (z0 : -9223372036854775808 ≤ z) (z1 : z ≤ 9223372036854775807) (hv : v < 256)
    (H : Hs h (pt y T_api_Claim cc.l :: BkA xb ts (0 + 1) [] :: L)) : law16_TokenHolds.J3 u now z v (some ⟨xb, 0, none⟩) s ⟨y, 0, none⟩ false Q h := by
  refine law16_TokenHolds.J3_of (br_false rfl ((br_iff _ _ _).2 ⟨fun b => ?_, fun b => ?_⟩))
  · have b := of_decide_eq_true b
    dsimp only
    rw [neg_idx z0 b]
    exact hold4 t ok hC hm hg hs1 hu hcc kk (by omega) hv H
  · have b := of_decide_eq_false b
    obtain ⟨a, rfl⟩ := Int.eq_ofNat_of_zero_le (show 0 ≤ z by omega)
    exact hold4 t ok hC hm hg hs1 hu hcc kk (by omega) hv H
theorem hold2 {xa : Option Addr} {xc : Nat} (t : TTabL L) (ok : okN ts) (g : Gv L xa (ts.flatMap Tn.l)) (hn : 0 < ts.length) (h8 : ts.length ≤ 8) (kk : ∀ h', Hs h' L → Q (.bool true) h') {w : Nat} {z : Int} {v : Nat} (z0 : -9223372036854775808 ≤ z) (z1 : z ≤ 9223372036854775807) (hv : v < 256)
    (H : Hs h (BkA xb ts 0 [] :: L)) : law16_TokenHolds.J2 xa ts.length xc w u now z v (some ⟨xb, 0, none⟩) Q h := by
  refine law16_TokenHolds.J2_of ?_
  rw [decide_eq_false (show ¬ ((ts.length : Nat) : Int) = 0 by omega)]
  refine br_true rfl ?_
  dsimp only
  rw [tmodN]
  have hj : w % ts.length < ts.length := Nat.mod_lt _ hn
  generalize w % ts.length = j at *
  refine tn_at g.cons H hj fun p hp => ⟨_, _, _, _, hp, ?_⟩
  have hmem := List.getElem_mem hj
  generalize ts[j] = tt at *
  have hg : mget (sec ts) tt.n = some tt.s := mget_of_mem (by rw [sec_keys]; exact ok.2) (List.mem_map.2 ⟨tt, hmem, rfl⟩)
  have P := H.new (t := T_api_Tenant) (cs := #[(.string (⟨#[]⟩ : ByteArray)), (.string (⟨#[]⟩ : ByteArray)), (.int .i64 0), (.int .i64 0)]) (xs := (Tn.mk ⟨#[]⟩ ⟨#[]⟩ 0 0).l)
  refine Hs.wrs (xs := (Tn.mk ⟨#[]⟩ ⟨#[]⟩ 0 0).l) P (fun h3 H3 => ?_)
  have H3 : Hs h3 (pt h.size T_api_Tenant tt.l :: BkA xb ts 0 [] :: L) := H3
  generalize h.size = y0 at *
  refine ⟨_, H3.cell (off := 0) rfl, Issue_h (L := pt y0 T_api_Tenant tt.l :: L) t.cons ok (by omega) (by omega) H3.m1 (fun e => by rw [hg] at e; cases e) (fun k h4 e hb H4 => ⟨_, _, rfl, br_true rfl ?_⟩) (fun k s h4 e hu hs H4 => ⟨_, _, rfl, br_false rfl ?_⟩)⟩
  · refine awake_h t H4.tl.tl fun h5 H5 => ⟨_, rfl, br_true rfl (br_true rfl ((br_iff _ _ _).2 ⟨fun _ => kk h5 H5, fun b => ?_⟩))⟩
    have b := of_decide_eq_false b
    rw [decide_eq_true (by omega)]
    exact kk h5 H5
  · rw [hg] at e; cases e
    obtain ⟨s1, s2⟩ := sec_ok ok hg
    have may : mayB ⟨tt.n, u, 0 + 1⟩ = true := (mayB_iff _).2 ⟨s1, hu.1, hu.2, by simp only; omega, by simp only; omega⟩
    obtain ⟨m, hm⟩ := has_mac ⟨tt.n, u, 0 + 1⟩ tt.s
    have hC := is_print may hs hm
    have sz := hC.sz
    have ec : chkF ts [] s now = if u < now then (Clm.none, 162) else (⟨tt.n, u, 0 + 1⟩, 0) := by
      rw [chkF, prs_yes hC]
      simp only [hg, hm, if_true]
      by_cases e : u < now
      · rw [if_pos e, if_pos e]
      · rw [if_neg e, if_neg e, if_neg (by simp)]
    refine Check_h t.cons ok (by omega) H4 fun h6 H6 => ?_
    rw [ec]
    by_cases hf : u < now
    · rw [if_pos hf]
      refine ⟨_, _, _, _, rfl, Hs.wrs (xs := Clm.none.l) (H6.new (xs := Clm.none.l)) fun h8 H8 => ?_⟩
      have H8 : Hs h8 (pt h6.size T_api_Claim Clm.none.l :: BkA xb ts (0 + 1) [] :: pt y0 T_api_Tenant tt.l :: L) := H8
      rw [decide_eq_false (show ¬ now ≤ u by omega)]
      exact br_false rfl (br_true rfl (br_false rfl (br_false rfl (hold3 t ok hC hm hg (by simp) rfl (.inr rfl) kk z0 z1 hv (H8.sel 3 [0, 1])))))
    · rw [if_neg hf]
      refine ⟨_, _, _, _, rfl, Hs.wrs (xs := Clm.none.l) (H6.new (xs := Clm.none.l)) fun h8 H8 => ?_⟩
      have H8 : Hs h8 (pt h6.size T_api_Claim (Clm.mk tt.n u (0 + 1)).l :: BkA xb ts (0 + 1) [] :: pt y0 T_api_Tenant tt.l :: L) := H8
      rw [decide_eq_true (show now ≤ u by omega)]
      refine br_false rfl (br_false rfl (br_true rfl ⟨_, _, _, H8.rdc0, _, (H8.sel 3 [2]).cell (off := 0) rfl, ?_⟩))
      have e : (!(decide (tt.n = tt.n) && ((u == u) && (((0 + 1 : Int) == 1) && true)))) = false := by simp
      dsimp only
      rw [e]
      exact hold3 t ok hC hm hg (by simp) rfl (.inl rfl) kk z0 z1 hv (H8.sel 3 [0, 1])
end
theorem TokenHolds_spec {ts : List Tn} {xa : Option Addr} {xn xc : Nat} {w u now z : Int} {v : Nat} (tab : TTab h) (hx : Rd h xa (ts.flatMap Tn.l)) (hxn : ts.length = xn) (w0 : -9223372036854775808 ≤ w) (w1 : w ≤ 9223372036854775807) (z0 : -9223372036854775808 ≤ z) (z1 : z ≤ 9223372036854775807) (hv : v < 256)
    (HQ : ∀ h', ExtB h.size h h' → Q (.bool true) h') : SpecH PP F_law16_TokenHolds [.slice xa xn xc, .int .i64 w, .int .i64 u, .int .i64 now, .int .i64 z, .int .u8 (v : Int)] h Q := by
  subst hxn
  have t : TTabL [ro h] := TTabL.ro tab
  have H := Hs.start h
  have fin : ∀ h', Hs h' [ro h] → Q (.bool true) h' := fun h' H' => HQ h' H'.ro_below
  have gx : Gv [ro h] xa (ts.flatMap Tn.l) := Gv.ro hx
  refine law16_TokenHolds.door (light_h gx H fun b h1 H1 => ⟨_, rfl, (br_iff _ _ _).2 ⟨fun _ => awake_h t H1 fun h2 H2 => ⟨_, rfl, fin h2 H2⟩, fun _ => ?_⟩⟩)
  refine New_h gx rfl H1 (fun e h2 H2 => ⟨_, _, rfl, br_true rfl (law16_TokenHolds.J1_of (br_true rfl (awake_h t H2 fun h3 H3 => ⟨_, rfl, br_true rfl (fin h3 H3)⟩)))⟩)
    (fun e1 e2 h2 H2 => ⟨_, _, rfl, br_true rfl (law16_TokenHolds.J1_of (br_true rfl (awake_h t H2 fun h3 H3 => ⟨_, rfl, br_true rfl (fin h3 H3)⟩)))⟩) (fun h8 ok xb h2 H2 => ⟨_, _, rfl, br_false rfl (br_false rfl ?_)⟩)
  by_cases hn : ts.length = 0
  · dsimp only
    rw [show (((ts.length : Nat) : Int) == 0) = true by rw [hn]; rfl]
    exact law16_TokenHolds.J1_of (br_true rfl (awake_h t H2.tl fun h3 H3 => ⟨_, rfl, br_true rfl (fin h3 H3)⟩))
  · dsimp only
    rw [show (((ts.length : Nat) : Int) == 0) = false from beq_eq_false_iff_ne.2 (by omega)]
    refine law16_TokenHolds.J1_of (br_false rfl ((br_iff _ _ _).2 ⟨fun b => ?_, fun b => ?_⟩))
    · have b := of_decide_eq_true b
      dsimp only
      rw [neg_idx w0 b]
      exact hold2 t ok gx (by omega) h8 fin z0 z1 hv H2
    · have b := of_decide_eq_false b
      obtain ⟨a, rfl⟩ := Int.eq_ofNat_of_zero_le (show 0 ≤ w by omega)
      exact hold2 t ok gx (by omega) h8 fin z0 z1 hv H2
end Go.Proofs.YtahigbbfilalgaaDoor

set_option linter.unusedVariables false
set_option linter.unusedSimpArgs false
set_option maxRecDepth 100000
namespace Go.Proofs.YtahigbbfilalgaaDoor
open Go Go.HW
theorem open_cl {W : World} {ecs : List Value} (hl : ecs.length = 3) (g : Dat PP W T_api_Claim ecs) : ∃ x, ecs = Clm.l x ∧ True := by
  match ecs, hl with
  | [a, b, c], _ =>
    have f := g.fields
    rw [FL_api_Claim] at f
    obtain ⟨k, e1, _⟩ := (f (T_string, 0, 1) (by simp)).str U_string
    obtain ⟨v, e2, _⟩ := (f (T_int, 1, 1) (by simp)).i64 U_int
    obtain ⟨w, e3, _⟩ := (f (T_int, 2, 1) (by simp)).i64 U_int
    simp at e1 e2 e3
    exact ⟨⟨k, v, w⟩, by rw [e1, e2, e3]; rfl, trivial⟩
theorem open_tn {W : World} {ecs : List Value} (hl : ecs.length = 4) (g : Dat PP W T_api_Tenant ecs) : ∃ x, ecs = Tn.l x ∧ True := by
  match ecs, hl with
  | [a, b, c, d], _ =>
    have f := g.fields
    rw [FL_api_Tenant] at f
    obtain ⟨k, e1, _⟩ := (f (T_string, 0, 1) (by simp)).str U_string
    obtain ⟨k2, e2, _⟩ := (f (T_string, 1, 1) (by simp)).str U_string
    obtain ⟨v, e3, _⟩ := (f (T_int, 2, 1) (by simp)).i64 U_int
    obtain ⟨w, e4, _⟩ := (f (T_int, 3, 1) (by simp)).i64 U_int
    simp at e1 e2 e3 e4
    exact ⟨⟨k, k2, v, w⟩, by rw [e1, e2, e3, e4]; rfl, trivial⟩
theorem laid_one {P : Program} {l : List (String × DataW Unit)} {W : World} (h : laidMetH P l W) (n : String) {d : DataW Unit} (e : (l.filter fun x => x.2.handleName?.isNone).filter (fun x => x.1 == n) = [(n, d)]) : laidMet P [(n, d)] W := by
  have := laidMet.filter (fun x => x.1 == n) ((laidMetH_iff.1 h).1)
  rwa [e] at this
theorem obj_of {W : World} {n : String} {cs : Array Value} {g : Nat} (hg : PP.globalNamed n = some g) (h : W.var? PP n = some cs) : ∃ t fz, W.heap[g]? = some (.cells cs t fz) := by
  unfold World.var? at h
  rw [hg, Option.bind_some] at h
  split at h
  · rename_i c t f e; injection h with h; subst h; exact ⟨_, _, e⟩
  · cases h
def kSteps : List Int := Sha.ks.map fun w => (w.toNat : Int)
/-- The row's own words, as what the proof reads. -/
theorem tab_of {W : World} (hk : laidMet PP [("haversack/hmac.k", Rows.laid_haversack_hmac_k)] W) (hp : laidMet PP [("internal/strconv.uint64pow10", Rows.laid_internal_strconv_uint64pow10)] W)
    (hs : laidMet PP [("strconv.ErrSyntax", Rows.laid_strconv_ErrSyntax)] W) (hr : laidMet PP [("strconv.ErrRange", Rows.laid_strconv_ErrRange)] W) : TTab W.heap := by
  have star : "*" ++ "errors.errorString" = "*errors.errorString" := by decide
  have row : ∀ u, PP.typeName? 3 u = some "*errors.errorString" → u = T_p_errors_errorString := fun u h =>
    typeName_ptr_named (nm := "errors.errorString") (by rw [star]; kernel_rfl) (by kernel_rfl) (by decide) u (by rw [star]; exact h)
  obtain ⟨f, uf, ft, fo⟩ := U_errs
  obtain ⟨ms, U_err⟩ : ∃ ms, PP.underlying T_error = some (.interface ms) := U_erri
  have uf : PP.underlying T_errors_errorString = some (.struct #[f]) := uf
  refine ⟨?_, ?_, ?_, ?_⟩
  · have t : Lib.TabIs PP W "haversack/hmac.k" .u32 kSteps := Lib.tabIs_of_head (rest := []) (by kernel_rfl : PP.globalNamed "haversack/hmac.k" = some G_hmac_k) (by kernel_rfl : _ = some T_64_uint32) (by kernel_rfl : PP.underlying T_64_uint32 = some (.array 64 T_uint32)) (by kernel_rfl : PP.underlying T_uint32 = some (.int .u32)) (by kernel_rfl) (by kernel_rfl) hk
    intro i hi
    have := t.cell (by kernel_rfl : PP.globalNamed "haversack/hmac.k" = some G_hmac_k) i (by simpa [kSteps, Sha.ks] using hi)
    rw [cell_w] at this
    refine this.trans ?_
    have e : ∀ i : Nat, i < 64 → kSteps.getD i 0 = ((Sha.ks.getD i 0).toNat : Int) := by decide
    exact congrArg (fun z => some (Value.int .u32 z)) (e i hi)
  · have t : Lib.TabIs PP W "internal/strconv.uint64pow10" .u64 Lib.pow10Tab := Lib.tabIs_of_head (rest := []) (by kernel_rfl : PP.globalNamed "internal/strconv.uint64pow10" = some G_internal_strconv_uint64pow10) (by kernel_rfl : _ = some T_20_uint64) (by kernel_rfl : PP.underlying T_20_uint64 = some (.array 20 T_uint64)) (by kernel_rfl : PP.underlying T_uint64 = some (.int .u64)) (by kernel_rfl) (by kernel_rfl) hp
    exact obj_of (by kernel_rfl) t
  · obtain ⟨a, s, hv, _⟩ := laid_sentinel (r := []) hs (by kernel_rfl : PP.globalNamed "strconv.ErrSyntax" = some G_strconv_ErrSyntax) (by kernel_rfl : (PP.globals[G_strconv_ErrSyntax]?).map (·.type) = some T_error) U_err row (by kernel_rfl : PP.underlying T_p_errors_errorString = some (.pointer T_errors_errorString)) uf (rfl : f.type = f.type) fo (by rw [ft]; kernel_rfl) (by kernel_rfl) (by rw [ft]; kernel_rfl)
    obtain ⟨t, fz, e⟩ := obj_of (by kernel_rfl : PP.globalNamed "strconv.ErrSyntax" = some G_strconv_ErrSyntax) hv
    exact ⟨_, _, t, fz, e⟩
  · obtain ⟨a, s, hv, _⟩ := laid_sentinel (r := []) hr (by kernel_rfl : PP.globalNamed "strconv.ErrRange" = some G_strconv_ErrRange) (by kernel_rfl : (PP.globals[G_strconv_ErrRange]?).map (·.type) = some T_error) U_err row (by kernel_rfl : PP.underlying T_p_errors_errorString = some (.pointer T_errors_errorString)) uf (rfl : f.type = f.type) fo (by rw [ft]; kernel_rfl) (by kernel_rfl) (by rw [ft]; kernel_rfl)
    obtain ⟨t, fz, e⟩ := obj_of (by kernel_rfl : PP.globalNamed "strconv.ErrRange" = some G_strconv_ErrRange) hv
    exact ⟨_, _, t, fz, e⟩
theorem tab_all {l : List (String × DataW Unit)} {W : World} (h : laidMetH PP l W)
    (e1 : (l.filter fun x => x.2.handleName?.isNone).filter (fun x => x.1 == "haversack/hmac.k") = [("haversack/hmac.k", Rows.laid_haversack_hmac_k)])
    (e2 : (l.filter fun x => x.2.handleName?.isNone).filter (fun x => x.1 == "internal/strconv.uint64pow10") = [("internal/strconv.uint64pow10", Rows.laid_internal_strconv_uint64pow10)])
    (e3 : (l.filter fun x => x.2.handleName?.isNone).filter (fun x => x.1 == "strconv.ErrSyntax") = [("strconv.ErrSyntax", Rows.laid_strconv_ErrSyntax)])
    (e4 : (l.filter fun x => x.2.handleName?.isNone).filter (fun x => x.1 == "strconv.ErrRange") = [("strconv.ErrRange", Rows.laid_strconv_ErrRange)]) : TTab W.heap :=
  tab_of (laid_one h _ e1) (laid_one h _ e2) (laid_one h _ e3) (laid_one h _ e4)
/-! ### A world in which all that is laid -/
def leafC : DataW Unit → List Value
  | .lit (.int k z) => [.int k z]
  | _ => []
def cellsD : DataW Unit → List Value
  | .agg l => l.flatMap fun
    | .agg m => m.flatMap leafC
    | d => leafC d
  | _ => []
def putC (g : Nat) (cs : List Value) (h : Heap) : Heap := h.modify g fun
  | .cells _ t f => .cells cs.toArray t f
  | o => o
end Go.Proofs.YtahigbbfilalgaaDoor

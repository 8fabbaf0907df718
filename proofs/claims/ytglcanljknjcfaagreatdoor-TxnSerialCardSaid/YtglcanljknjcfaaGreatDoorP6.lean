/- Texts of the proof, laid together: Calls of a manager: names, an open transaction, what it sees.; Calls of a manager: Read, Put, Add, Delete, Owner, Now, Begin.; Calls of a manager: Put, Add, Delete, Owner, Now, Begin.; Begin.; List: the names that a transaction sees.; List of a manager.; Dump, Use, fits.; Use: how much a tenant has.; fits: would a tenant's archives not be more than may be?; Check.; What nobody needs is forgotten: DeleteFunc of commits.; A transaction is open no more.; Commit, Abort, Dump.; How much there is stays small.; A manager without entries.; Texts held against each other; the law's examples.; No manager: TxnNil.; Calls of an open transaction; more is not looked at; keys in order.; Who is alone: TxnAlone.; Who is alone: the law.; Arguments opened: calls; what start-up laid, as the row tells it.; A transaction's calls, by its snapshot alone.; Lives: transactions with all that they were answered, plain.; Lives in memory; a life done again.; Lives are found; the script.; The script, done on the manager.; Two rows of archives held against each other.; The committed transactions, one behind the other: TxnSerial. -/
import Derived.Test.YtglcanljknjcfaaGreatDoorP5
import Derived.Test.YtglcanljknjcfaaGreatDoorP2
import Derived.Test.YtglcanljknjcfaaGreatDoorRows
import Derived.Lib.LaidTab
import Derived.LaidSub
set_option linter.unusedVariables false
set_option linter.unusedSimpArgs false
set_option linter.unusedSectionVars false
set_option maxRecDepth 20000
namespace Go.Proofs.YtglcanljknjcfaaGreatDoor
open Go Go.HW
variable {h : Heap} {L : List Assn} {Q : Value → Heap → Prop}
theorem wrV_one1 (w : Wr) : ∀ x ∈ wrV w, oneC x = true := by
 intro x hx; simp [wrV] at hx; rcases hx with rfl | rfl | rfl | rfl | rfl <;> rfl
theorem short1_hs {c : Nat} (k : Q (.bool (!shc c)) h) : SpecH PP z434 [.int .u8 (c : Nat)] h Q := by
 have leaf : ∀ X : Bool, X = !shc c → Q (.bool X) h := fun X e => e ▸ k
 refine z433.door ?_
 dsimp only
 unfold shc at leaf
 refine (y16 _ _ _).2 ⟨fun a => (y16 _ _ _).2 ⟨fun b => leaf _ ?_, fun b => (y16 _ _ _).2 ⟨fun d => leaf _ ?_, fun d => leaf _ ?_⟩⟩,
  fun a => (y16 _ _ _).2 ⟨fun b => (y16 _ _ _).2 ⟨fun d => leaf _ ?_, fun d => (y16 _ _ _).2 ⟨fun e => leaf _ ?_, fun e => leaf _ ?_⟩⟩, fun b => leaf _ ?_⟩⟩
 all_goals
  simp only [decide_eq_true_eq, decide_eq_false_iff_not] at *
  rw [Bool.eq_iff_iff]
  simp
  omega
theorem IndexB_hs {a : OA} {n c : Nat} {bs : List Nat} (g : Gv L a (nV bs)) (hn : bs.length = n) (hb : n < 2 ^ 40) (H : Hs h L) (kk : ∀ v : Int, decide (v ≥ 0) = bs.any (fun c => !shc c) → Q (.int .i64 v) h) :
  SpecH PP z307 [.slice a n c, .func (.func z434) #[] #[]] h Q := by
 refine z306.door ?_
 have go : ∀ (r i : Nat), i + r = n → (bs.take i).any (fun c => !shc c) = false → z306.L1 a n c (.func (.func z434) #[] #[]) (n : Nat) (i : Nat) (z306.K1 Q) h := by
  intro r
  induction r with
  | zero =>
   intro i hi hall
   refine z306.L1_of (y13 (by simp; omega) (z306.L1_X0 (kk _ ?_)))
   rw [List.take_of_length_le (by omega)] at hall
   rw [hall]; rfl
  | succ r ih =>
   intro i hi hall
   have hl : i < bs.length := by omega
   refine z306.L1_of (y22 (by simp; omega) ?_)
   refine idx E_sl_uint8 (g h H) (by omega) (by omega) (by rw [Int.toNat_natCast]; exact nV_get hl) fun t ht => ⟨_, ht, y152 (by kernel_rfl) (short1_hs ⟨_, rfl, ?_⟩)⟩
   refine (y16 _ _ _).2 ⟨fun e => z306.L1_Xret (kk _ ?_), fun e => ?_⟩
   ·rw [decide_eq_true (by omega)]
    exact (List.any_eq_true.2 ⟨_, List.getElem_mem hl, e⟩).symm
   ·have ew : IntKind.i64.wrap (((i : Nat) : Int) + 1) = ((i + 1 : Nat) : Int) := by rw [y34 (by omega) (by omega)]; omega
    dsimp only
    rw [ew]
    refine ih (i + 1) (by omega) ?_
    rw [List.take_succ_eq_append_getElem hl, List.any_append, hall]
    simpa using e
 exact go n 0 (by omega) (by simp)
theorem Short_hs {s : ByteArray} (H : Hs h L) (kk : ∀ h', Hs h' L → Q (.bool (shortB s)) h') : SpecH PP z432 [.string s] h Q := by
 refine z431.door ?_
 dsimp only
 refine (y16 _ _ _).2 ⟨fun e => (y16 _ _ _).2 ⟨fun e2 => ?_, fun e2 => ?_⟩, fun e => ?_⟩
 ·have e2 := of_decide_eq_true e2
  have hne : decide (s ≠ e0) = true := by rw [decide_not]; exact e
  have hsz : decide (s.size ≤ 16) = true := decide_eq_true (by omega)
  refine H.s2b y91 U_sl_uint8 U_uint8 fun h1 a c hc H1 => ⟨_, _, _, rfl, z296.door (IndexB_hs Gv.rdO (y116 s) (by omega) H1 fun v hv => ⟨_, rfl, _, rfl, ?_⟩)⟩
  rw [hv]
  have ez : shortB s = !((sb s).any fun c => !shc c) := by unfold shortB; rw [hne, hsz, List.all_eq_not_any_not]; rfl
  rw [← ez]
  exact kk h1 H1.tl
 ·have e2 := of_decide_eq_false e2
  have ez : shortB s = false := by unfold shortB; rw [decide_eq_false (p := s.size ≤ 16) (by omega)]; simp
  have := kk h H; rw [ez] at this; exact this
 ·have e : decide (s = e0) = true := by simpa using e
  have ez : shortB s = false := by unfold shortB; rw [decide_not, e]; rfl
  have := kk h H; rw [ez] at this; exact this
theorem ContainsS_hs {a : OA} {n c : Nat} {l : List Nm} (g : Gv L a (l.map Value.string)) (hn : l.length = n) (hb : n < 2 ^ 40) (H : Hs h L) (kk : ∀ h', Hs h' L → Q (.bool (l.any fun s => !znameB s)) h') :
  SpecH PP z299 [.slice a n c, .func (.func z417) #[] #[]] h Q := by
 refine z298.door (z308.door ?_)
 have go : ∀ (r i : Nat) {h : Heap}, i + r = n → (l.take i).any (fun s => !znameB s) = false → Hs h L → z308.L1 a n c (.func (.func z417) #[] #[]) (n : Nat) (i : Nat) (z308.K1 fun v h1 => ∃ (t7 : Int), v = (.int .i64 t7) ∧ Q (.bool (decide (t7 ≥ 0))) h1) h := by
  intro r
  induction r with
  | zero =>
   intro i h hi hall H
   refine z308.L1_of (y13 (by simp; omega) (z308.L1_X0 ⟨_, rfl, ?_⟩))
   rw [List.take_of_length_le (by omega)] at hall
   have := kk h H
   rw [hall] at this
   exact this
  | succ r ih =>
   intro i h hi hall H
   have hl : i < l.length := by omega
   refine z308.L1_of (y22 (by simp; omega) ?_)
   refine idx y181 (v := .string l[i]) (g h H) (by omega) (by omega) (by rw [Int.toNat_natCast, List.getElem?_map, List.getElem?_eq_getElem hl]; rfl) fun t ht => ⟨_, ht, y152 (by kernel_rfl) (z416.door (Name_hs H fun h2 H2 => ⟨_, rfl, _, rfl, ?_⟩))⟩
   dsimp only
   refine (y16 _ _ _).2 ⟨fun e => z308.L1_Xret ⟨_, rfl, ?_⟩, fun e => ?_⟩
   ·rw [decide_eq_true (by omega)]
    have := kk h2 H2
    rw [List.any_eq_true.2 ⟨_, List.getElem_mem hl, e⟩] at this
    exact this
   ·have ew : IntKind.i64.wrap (((i : Nat) : Int) + 1) = ((i + 1 : Nat) : Int) := by rw [y34 (by omega) (by omega)]; omega
    rw [ew]
    refine ih (i + 1) (by omega) ?_ H2
    rw [List.take_succ_eq_append_getElem hl, List.any_append, hall]
    simpa using e
 exact go n 0 (by omega) (by simp) H
structure Bd (A : AM) : Prop where
 first : A.first ≤ 1000000001
 sts : A.sts.length ≤ 2 ^ 30
 tot : (A.sta 0).length + (A.wrs.map (·.length)).sum ≤ 2 ^ 30
 tx : ∀ t ∈ A.txs, t.st.length ≤ 2 ^ 20
 next : A.next ≤ 2 ^ 40
theorem zOp : (PP.info? y101).bind (·.zero) = some (.pointer none) := by kernel_rfl
theorem Ky_int : Keys PP y63 intK := Keys.int U_int
def kz : Key := ⟨e0, e0, e0⟩
variable {q : Nat} {A : AM} {M : MM} {t : ATx} {o : OT}
theorem at_hs {n : Int} {ar : Nm} {en : Option Nm} {a : OA} {c : Nat} (lk : LinkM A M) (g : Gv L a (en.toList.map Value.string)) (hn0 : a = none → en = none) (H : Hs h (pt q y24 (mgV M) :: mp intK otV M.r M.l :: fam opA M.l :: L))
  (k1 : ∀ e h', A.at n ar en = .inl e → Hs h' (pt q y24 (mgV M) :: mp intK otV M.r M.l :: fam opA M.l :: L) → Q (.tuple #[.pointer none, keyA kz, .int .i64 e]) h')
  (k2 : ∀ t o h', A.at n ar en = .inr t → mget M.l n = some o → OLink A.first t o → Hs h' (pt q y24 (mgV M) :: mp intK otV M.r M.l :: fam opA M.l :: L) → Q (.tuple #[.pointer (some ⟨o.b, 0, none⟩), keyA (t.key ar (en.getD e0)), .int .i64 0]) h') :
  SpecH PP z415 [.pointer (some ⟨q, 0, none⟩), .int .i64 n, .string ar, .slice a en.toList.length c] h Q := by
 refine z414.door ?_
 dsimp only
 have H1 := H.new (t := y23) (cs := #[.string ⟨#[]⟩, .string ⟨#[]⟩, .string ⟨#[]⟩]) (xs := keyV kz)
 generalize Array.size h = t9 at H1 ⊢
 generalize Array.push h _ = h1 at H1 ⊢
 refine y13 rfl ⟨_, H1.m1.cell (off := 2) rfl, ?_⟩
 refine H1.m2.lookup2 y100 Ky_int zOp n ?_
 cases e : A.find n with
 | none =>
  rw [lk.fnone e]
  refine ⟨_, _, rfl, y22 rfl (H1.wrs (vs := keyV kz) (fun h2 H2 => ⟨_, _, _, H2.rdc0, k1 140 h2 (by unfold AM.at; rw [e]) H2.tl⟩) (hv := y126 _))⟩
 | some t =>
  obtain ⟨o, eo, ol⟩ := lk.fsome e
  rw [eo]
  refine ⟨_, _, rfl, y13 rfl (Short_hs H1 fun h3 H3 => ⟨_, rfl, ?_⟩)⟩
  have no : ∀ {h' : Heap}, (shortB ar = false ∨ (en.map znameB) = some false) → Hs h' (pt t9 y23 (keyV kz) :: pt q y24 (mgV M) :: mp intK otV M.r M.l :: fam opA M.l :: L) → z414.J1 ar a en.toList.length c ⟨t9, 0, none⟩ (some ⟨o.b, 0, none⟩) true Q h' := fun hc H => by
   refine z414.J1_of (y22 rfl (H.wrs (vs := keyV kz) (fun h2 H2 => ⟨_, _, _, H2.rdc0, k1 143 h2 (by unfold AM.at; rw [e]; exact if_pos hc) H2.tl⟩) (hv := y126 _)))
  refine (y16 _ _ _).2 ⟨fun e2 => no (.inl (by simpa using e2)) H3, fun e2 => ?_⟩
  have e2 : shortB ar = true := by simpa using e2
  refine ContainsS_hs (l := en.toList) g.cons.cons.cons.cons rfl (by cases en <;> simp) H3 fun h4 H4 => ⟨_, rfl, ?_⟩
  cases e3 : en.toList.any fun s => !znameB s with
  | true =>
   refine no (.inr ?_) H4
   cases en with
   | none => simp at e3
   | some s => simpa using e3
  | false =>
   have hat : A.at n ar en = .inr t := by
    unfold AM.at; rw [e]
    refine if_neg ?_
    rintro (q | q)
    ·rw [e2] at q; cases q
    ·cases en with
     | none => cases q
     | some s => simp at e3 q; rw [e3] at q; cases q
   have nd := lk.nd
   have H5 := (H4.m3.fam_take nd eo)
   have H6 := y113.1 H5
   refine z414.J1_of (y13 rfl ⟨_, H6.cell (off := 0) rfl, ?_⟩)
   dsimp only
   have H7 := H6.new (t := y23) (cs := #[.string ⟨#[]⟩, .string ⟨#[]⟩, .string ⟨#[]⟩]) (xs := keyV kz)
   generalize Array.size h4 = k13 at H7 ⊢
   generalize Array.push h4 _ = h7 at H7 ⊢
   have fin : ∀ {h' : Heap}, Hs h' (pt k13 y23 (keyV (t.key ar (en.getD e0))) :: pt o.b y54 [.string o.tn, ptrV o.s] :: setA o.s o.vs :: fam opA (HW.mdel M.l n) :: pt t9 y23 (keyV kz) :: pt q y24 (mgV M) :: mp intK otV M.r M.l :: L) → z414.J2 ⟨t9, 0, none⟩ (some ⟨o.b, 0, none⟩) ⟨k13, 0, none⟩ Q h' := by
    intro h' H
    refine z414.J2_of ⟨_, _, _, H.rdc0, ?_⟩
    refine (H.sel 7 [4, 1, 2, 3, 5, 6]).wrs (vs := keyV (t.key ar (en.getD e0))) (hv := y126 _) fun h8 H8 => ⟨_, _, _, H8.rdc0, ?_⟩
    have H9 := (y113.2 (H8.sel 6 [1, 2, 3, 4, 5])).fam_back nd eo
    exact k2 t o _ hat eo ol (H9.sel 3 [1, 2, 0])
   refine H7.wrs (vs := [.string o.tn, .string ar, .string ⟨#[]⟩]) fun h8 H8 => ?_
   rw [ol.tn] at H8
   cases en with
   | none => exact y13 rfl (fin (by rw [ol.tn]; exact H8))
   | some s =>
    refine y22 rfl ?_
    refine idx y181 (v := .string s) (g.cons.cons.cons.cons.cons.cons.cons _ H8) (by decide) (by simp) rfl fun t1 ht => ⟨_, ht, ?_⟩
    refine H8.sto (off := 2) (by simp) fun h9 H9 => fin (by rw [ol.tn]; exact H9)
theorem sees_hs {k : Key} (lk : LinkM A M) (hb : Bd A) (ht : t ∈ A.txs) (ol : OLink A.first t o) (H : Hs h (pt q y24 (mgV M) :: storeA M.s M.cs :: pt o.b y54 [.string o.tn, ptrV o.s] :: setA o.s o.vs :: L))
  (kk : ∀ h', Hs h' (pt q y24 (mgV M) :: storeA M.s M.cs :: pt o.b y54 [.string o.tn, ptrV o.s] :: setA o.s o.vs :: L) → Q (.tuple #[.string ((A.look t k).getD e0), .bool (A.look t k).isSome, .bool (t.own k).isSome]) h') :
  SpecH PP z429 [.pointer (some ⟨q, 0, none⟩), .pointer (some ⟨o.b, 0, none⟩), keyA k] h Q := by
 have hti := lk.ai.tx t ht
 have hown := ol.own hti.rise k
 have hlook : A.look t k = match t.own k with | some w => if w.there then some w.data else none | none => mget (A.sta t.snap) k := rfl
 have hbs := hb.sts
 have hbf := hb.first
 have hsn := hti.snap
 have htot : M.cs.total < 2 ^ 40 := by have := lk.tot; have := hb.tot; omega
 refine z428.door ?_
 dsimp only
 have H1 := H.new (t := y23) (cs := #[.string k.t, .string k.a, .string k.e]) (xs := keyV k)
 generalize Array.size h = k5 at H1 ⊢
 generalize Array.push h _ = h1 at H1 ⊢
 have j1 : ∀ {h' : Heap} {w9 : Nat}, Hs h' (pt w9 y25 (wrV (o.vs.own k).1) :: pt k5 y23 (keyV k) :: pt q y24 (mgV M) :: storeA M.s M.cs :: pt o.b y54 [.string o.tn, ptrV o.s] :: setA o.s o.vs :: L) →
   z428.J1 (some ⟨q, 0, none⟩) (some ⟨o.b, 0, none⟩) ⟨k5, 0, none⟩ ⟨w9, 0, none⟩ (o.vs.own k).2 Q h' := by
  intro h' w9 H
  refine z428.J1_of ?_
  rw [hown] at H ⊢
  cases ew : t.own k with
  | some w =>
   rw [ew] at H hlook
   simp only at H ⊢
   refine y22 rfl ⟨_, H.cell (off := 4) rfl, _, H.cell (off := 3) rfl, ?_⟩
   have := kk h' (H.sel 6 [2, 3, 4, 5])
   rw [hlook, ew] at this
   dsimp only at this
   have hz := (hti.wok w (by
    have : wfind t.st k = some w := ew
    exact List.mem_of_find?_eq_some this)).z
   cases hth : w.there with
   | true => rw [hth] at this; exact this
   | false => rw [hth] at this; rw [hz hth]; exact this
  | none =>
   rw [ew] at H hlook
   simp only at H ⊢
   have H2 := H.sel 6 [2, 1, 3, 4, 5]
   have cq := H2.cell (off := 0) rfl
   have ck := H2.m1.rdc0
   have co := (H2.sel 4 [3, 0, 1, 2]).cell (off := 1) rfl
   have HS := H2.sel 5 [4, 0, 1, 2, 3]
   have ew2 : IntKind.i64.wrap (o.vs.at_ + 1) = ((A.first + t.snap + 1 : Nat) : Int) := by rw [ol.at_, y34 (by omega) (by omega)]; omega
   have fin : SpecH PP z215 [.pointer (some ⟨M.s, 0, none⟩), keyA k, .int .i64 (IntKind.i64.wrap (o.vs.at_ + 1))] h' (fun v_1 h2 => ∃ (t37 : ByteArray) (t37_1 : Bool), v_1 = (.tuple #[(.string t37), (.bool t37_1)]) ∧ z428.J2 t37 t37_1 Q h2) := by
    rw [ew2]
    refine Get_hs lk.ci htot (H2.sel 5 [2, 0, 1, 3, 4]) fun h3 H3 => ⟨_, _, rfl, z428.J2_of ?_⟩
    rw [lk.get ht k]
    have := kk h3 (H3.sel 5 [1, 0, 3, 4])
    rw [hlook, ew] at this
    simp only at this
    cases eg : mget (A.sta t.snap) k with
    | none => rw [eg] at this; exact this
    | some d => rw [eg] at this; exact this
   refine y13 rfl ⟨_, co, ?_⟩
   repeat' first
    | exact trivial
    | refine And.intro ?_ ?_
    | refine ⟨_, cq, ?_⟩
    | refine ⟨_, _, _, ck, ?_⟩
    | refine VAt_hs HS ⟨_, rfl, ?_⟩
    | exact fin
 refine ⟨_, (H1.sel 4 [3, 0, 1, 2]).cell (off := 1) rfl, _, _, _, H1.rdc0, ⟨?_, ?_, trivial⟩⟩
 ·refine VOwn_hs (H1.sel 5 [4, 0, 1, 2, 3]) fun h3 H3 => ⟨_, _, _, _, _, _, rfl, ?_⟩
  have H4 := H3.new (t := y25) (cs := #[.string ⟨#[]⟩, .string ⟨#[]⟩, .string ⟨#[]⟩, .bool false, .string ⟨#[]⟩]) (xs := wrV noW)
  generalize Array.size h3 = w9 at H4 ⊢
  generalize Array.push h3 _ = h4 at H4 ⊢
  refine H4.wrs (vs := wrV (o.vs.own k).1) (hv := wrV_one1 _) (fun h5 H5 => j1 (H5.sel 6 [0, 2, 3, 4, 5, 1]))
 ·have H4 := H1.new (t := y25) (cs := #[.string ⟨#[]⟩, .string ⟨#[]⟩, .string ⟨#[]⟩, .bool false, .string ⟨#[]⟩]) (xs := wrV noW)
  generalize Array.size h1 = w9 at H4 ⊢
  generalize Array.push h1 _ = h4 at H4 ⊢
  refine VOwn_hs (H4.sel 6 [5, 0, 1, 2, 3, 4]) fun h3 H3 => ⟨_, _, _, _, _, _, rfl, ?_⟩
  refine (H3.sel 6 [1, 2, 3, 4, 5, 0]).wrs (vs := wrV (o.vs.own k).1) (hv := wrV_one1 _) (fun h5 H5 => j1 H5)
end Go.Proofs.YtglcanljknjcfaaGreatDoor

set_option maxRecDepth 20000
namespace Go.Proofs.YtglcanljknjcfaaGreatDoor
open Go Go.HW
variable {h : Heap} {L : List Assn} {Q : Value → Heap → Prop} {q : Nat} {A : AM} {M : MM} {t t' : ATx} {o o' : OT}
abbrev cmsA (M : MM) : Assn := own M.ca M.cms.length M.cc y36 2 (M.cms.flatMap cmoV)
theorem at_inl {n : Int} {ar : Nm} {en : Option Nm} {e : Int} (h : A.at n ar en = .inl e) : e = 140 ∨ e = 143 := by
 unfold AM.at at h
 split at h
 ·injection h with h; exact .inl h.symm
 ·split at h
  ·injection h with h; exact .inr h.symm
  ·cases h
theorem man_same (lk : LinkM A M) (H : Hs h (pt q y24 (mgV M) :: mp intK otV M.r M.l :: fam opA M.l :: storeA M.s M.cs :: cmsA M :: Sp (M.cms.map cmoA) :: L)) : Hs h (manA q A :: L) :=
 y68.2 ⟨M, lk, H.sel 6 [0, 3, 4, 5, 1, 2]⟩
theorem man_put (lk : LinkM A M) (ht : t ∈ A.txs) (eo : mget M.l (t.n : Int) = some o) (ol : OLink A.first t' o') (hb : o'.b = o.b) (hn : t'.n = t.n) (hs : t'.snap = t.snap) (ai : AI (A.upd t'))
  (H : Hs h (opA o' :: fam opA (HW.mdel M.l (t.n : Int)) :: pt q y24 (mgV M) :: storeA M.s M.cs :: cmsA M :: Sp (M.cms.map cmoA) :: mp intK otV M.r M.l :: L)) : Hs h (manA q (A.upd t') :: L) := by
 have H1 := H.fam_put lk.nd
 have e : (mset M.l (t.n : Int) o').map (fun x => (x.1, otV x.2)) = M.l.map (fun x => (x.1, otV x.2)) := mset_sameV eo (by unfold otV; rw [hb])
 have H2 : Hs h (mp intK otV M.r (mset M.l (t.n : Int) o') :: pt q y24 (mgV M) :: storeA M.s M.cs :: cmsA M :: Sp (M.cms.map cmoA) :: fam opA (mset M.l (t.n : Int) o') :: L) := (H1.sel 6 [5, 1, 2, 3, 4, 0]).mono fun m hm => mp_congr e.symm hm
 exact y68.2 ⟨{ M with l := mset M.l (t.n : Int) o' }, lk.upd ht eo ol hn hs ai, H2.sel 6 [1, 2, 3, 4, 0, 5]⟩
theorem man_take (lk : LinkM A M) (eo : mget M.l (t.n : Int) = some o) (H : Hs h (fam opA M.l :: L)) : Hs h (pt o.b y54 [.string o.tn, ptrV o.s] :: setA o.s o.vs :: fam opA (HW.mdel M.l (t.n : Int)) :: L) := y113.1 (H.fam_take lk.nd eo)
theorem MRead_hs {n : Int} {ar en : Nm} (hb : Bd A) (H : Hs h (manA q A :: L)) (kk : ∀ h', Hs h' (manA q (A.read n ar en).1 :: L) → Q (.tuple #[.string (A.read n ar en).2.1, .int .i64 (A.read n ar en).2.2]) h') :
  SpecH PP z411 [.pointer (some ⟨q, 0, none⟩), .int .i64 n, .string ar, .string en] h Q := by
 obtain ⟨M, lk, H0⟩ := y68.1 H
 refine z410.door ?_
 dsimp only
 have H1 := H0.new (t := y29) (cs := #[.string en]) (xs := [.string en])
 generalize Array.size h = eb at H1 ⊢
 generalize Array.push h _ = h1 at H1 ⊢
 refine at_hs (en := some en) (L := pt eb y29 [.string en] :: storeA M.s M.cs :: cmsA M :: Sp (M.cms.map cmoA) :: L) lk (fun h H => H.ptrd rfl) (fun e => by cases e) (H1.sel 7 [1, 5, 6, 0, 2, 3, 4]) (fun e h2 ea H2 => ⟨_, _, _, _, _, rfl, ?_⟩) fun t o h2 ea eo ol H2 => ⟨_, _, _, _, _, rfl, ?_⟩
 ·have H3 := H2.new (t := y23) (cs := #[.string ⟨#[]⟩, .string ⟨#[]⟩, .string ⟨#[]⟩]) (xs := keyV kz)
  generalize Array.size h2 = k11 at H3 ⊢
  generalize Array.push h2 _ = h3 at H3 ⊢
  refine H3.wrs (vs := keyV kz) (hv := y126 _) fun h4 H4 => y22 ?_ ?_
  ·rcases at_inl ea with rfl | rfl <;> rfl
  ·unfold AM.read at kk
   rw [ea] at kk
   exact kk h4 (man_same lk (H4.sel 8 [1, 2, 3, 5, 6, 7]))
 ·obtain ⟨ef, _, _⟩ := y112 ea
  obtain ⟨ht, en0⟩ := y69 ef
  have hti := lk.ai.tx t ht
  subst en0
  unfold AM.read at kk
  rw [ea] at kk
  simp only [Option.getD_some]
  dsimp only at kk
  generalize t.key ar en = k at kk ⊢
  have H3 := H2.new (t := y23) (cs := #[.string ⟨#[]⟩, .string ⟨#[]⟩, .string ⟨#[]⟩]) (xs := keyV kz)
  generalize Array.size h2 = k11 at H3 ⊢
  generalize Array.push h2 _ = h3 at H3 ⊢
  refine H3.wrs (vs := keyV k) (hv := y126 _) fun h4 H4 => y13 rfl ⟨_, _, _, H4.rdc0, ?_⟩
  have H5 := man_take lk eo (H4.sel 8 [3, 0, 1, 2, 4, 5, 6, 7])
  refine sees_hs lk hb ht ol (H5.sel 10 [4, 7, 0, 1, 2, 3, 5, 8, 9]) fun h6 H6 => ⟨_, _, _, rfl, ?_⟩
  have fin : ∀ {h' : Heap}, Hs h' (manA q (A.upd (t.read k)) :: L) → z410.J1 ((A.look t k).getD e0) (A.look t k).isSome Q h' := fun H' => by
   refine z410.J1_of ?_
   have := kk _ H'
   cases el : A.look t k with
   | none => rw [el] at this; exact y22 rfl this
   | some d => rw [el] at this; exact y13 rfl this
  cases eo2 : (t.own k).isSome with
  | true =>
   have e : t.read k = t := by unfold ATx.read; rw [if_pos eo2]
   refine y13 rfl (fin (man_put lk ht eo (o' := o) (by rw [e]; exact ol) rfl (by rw [e]) (by rw [e]) (lk.ai.updr ht k) (y113.2 (H6.sel 9 [2, 3, 4, 0, 1, 7, 8, 6]))))
  | false =>
   obtain ⟨r1, r2, _⟩ := read_f t k
   refine y22 rfl ⟨_, (H6.sel 3 [2, 0, 1]).cell (off := 1) rfl, _, _, _, (H6.sel 6 [5, 0, 1, 2, 3, 4]).rdc0, ?_⟩
   refine VRead_hs (H6.sel 4 [3, 0, 1, 2]) fun h7 H7 => ⟨rfl, ?_⟩
   exact fin (man_put lk ht eo (o' := { o with vs := o.vs.read k }) (ol.read k eo2) rfl r1 r2 (lk.ai.updr ht k) (y113.2 (H7.sel 9 [3, 0, 4, 1, 2, 7, 8, 6])))
end Go.Proofs.YtglcanljknjcfaaGreatDoor

set_option maxRecDepth 20000
namespace Go.Proofs.YtglcanljknjcfaaGreatDoor
open Go Go.HW
variable {h : Heap} {L : List Assn} {Q : Value → Heap → Prop} {q : Nat} {A : AM} {M : MM} {t t' : ATx} {o o' : OT}
theorem MPut_hs {n : Int} {ar en data : Nm} (H : Hs h (manA q A :: L)) (kk : ∀ h', Hs h' (manA q (A.put n ar en data).1 :: L) → Q (.int .i64 (A.put n ar en data).2) h') :
  SpecH PP z409 [.pointer (some ⟨q, 0, none⟩), .int .i64 n, .string ar, .string en, .string data] h Q := by
 obtain ⟨M, lk, H0⟩ := y68.1 H
 refine z408.door ?_
 dsimp only
 have H1 := H0.new (t := y29) (cs := #[.string en]) (xs := [.string en])
 generalize Array.size h = eb at H1 ⊢
 generalize Array.push h _ = h1 at H1 ⊢
 refine at_hs (en := some en) (L := pt eb y29 [.string en] :: storeA M.s M.cs :: cmsA M :: Sp (M.cms.map cmoA) :: L) lk (fun h H => H.ptrd rfl) (fun e => by cases e) (H1.sel 7 [1, 5, 6, 0, 2, 3, 4]) (fun e h2 ea H2 => ⟨_, _, _, _, _, rfl, ?_⟩) fun t o h2 ea eo ol H2 => ⟨_, _, _, _, _, rfl, ?_⟩
 ·have H3 := H2.new (t := y23) (cs := #[.string ⟨#[]⟩, .string ⟨#[]⟩, .string ⟨#[]⟩]) (xs := keyV kz)
  generalize Array.size h2 = k11 at H3 ⊢
  generalize Array.push h2 _ = h3 at H3 ⊢
  refine H3.wrs (vs := keyV kz) (hv := y126 _) fun h4 H4 => y22 ?_ ?_
  ·rcases at_inl ea with rfl | rfl <;> rfl
  ·unfold AM.put at kk
   rw [ea] at kk
   exact kk h4 (man_same lk (H4.sel 8 [1, 2, 3, 5, 6, 7]))
 ·obtain ⟨ef, e2, e3⟩ := y112 ea
  obtain ⟨ht, en0⟩ := y69 ef
  have hti := lk.ai.tx t ht
  subst en0
  unfold AM.put at kk
  rw [ea] at kk
  simp only [Option.getD_some]
  dsimp only at kk
  have hw : ¬ 8192 < data.size → WOk t.tn ⟨t.key ar en, true, data⟩ := fun hd => ⟨rfl, e2, e3 en rfl, by show data.size ≤ 8192; omega, nofun⟩
  generalize t.key ar en = k at kk hw ⊢
  have H3 := H2.new (t := y23) (cs := #[.string ⟨#[]⟩, .string ⟨#[]⟩, .string ⟨#[]⟩]) (xs := keyV kz)
  generalize Array.size h2 = k11 at H3 ⊢
  generalize Array.push h2 _ = h3 at H3 ⊢
  refine H3.wrs (vs := keyV k) (hv := y126 _) fun h4 H4 => y13 rfl ((y16 _ _ _).2 ⟨fun hd => ?_, fun hd => ?_⟩)
  ·have hd := of_decide_eq_true hd
   rw [if_pos (by omega)] at kk
   exact kk h4 (man_same lk (H4.sel 8 [1, 2, 3, 5, 6, 7]))
  ·have hd := of_decide_eq_false hd
   have hd : ¬ 8192 < data.size := by omega
   rw [if_neg hd] at kk
   have H5 := man_take lk eo (H4.sel 8 [3, 0, 1, 2, 4, 5, 6, 7])
   refine ⟨_, H5.cell (off := 1) rfl, _, _, _, (H5.sel 4 [3, 0, 1, 2]).rdc0, ?_⟩
   refine VPut_hs (H5.sel 2 [1, 0]) fun h7 H7 => ⟨rfl, kk h7 ?_⟩
   exact man_put lk ht eo (o' := { o with vs := o.vs.put ⟨k, true, data⟩ }) (ol.stage hti.rise ⟨k, true, data⟩) rfl rfl rfl (lk.ai.upds ht (hw hd)) (y113.2 (H7.sel 10 [1, 0, 2, 4, 7, 8, 9, 5]))
theorem MDelete_hs {n : Int} {ar en : Nm} (H : Hs h (manA q A :: L)) (kk : ∀ h', Hs h' (manA q (A.delete n ar en).1 :: L) → Q (.int .i64 (A.delete n ar en).2) h') :
  SpecH PP z397 [.pointer (some ⟨q, 0, none⟩), .int .i64 n, .string ar, .string en] h Q := by
 obtain ⟨M, lk, H0⟩ := y68.1 H
 refine z396.door ?_
 dsimp only
 have H1 := H0.new (t := y29) (cs := #[.string en]) (xs := [.string en])
 generalize Array.size h = eb at H1 ⊢
 generalize Array.push h _ = h1 at H1 ⊢
 refine at_hs (en := some en) (L := pt eb y29 [.string en] :: storeA M.s M.cs :: cmsA M :: Sp (M.cms.map cmoA) :: L) lk (fun h H => H.ptrd rfl) (fun e => by cases e) (H1.sel 7 [1, 5, 6, 0, 2, 3, 4]) (fun e h2 ea H2 => ⟨_, _, _, _, _, rfl, ?_⟩) fun t o h2 ea eo ol H2 => ⟨_, _, _, _, _, rfl, ?_⟩
 ·have H3 := H2.new (t := y23) (cs := #[.string ⟨#[]⟩, .string ⟨#[]⟩, .string ⟨#[]⟩]) (xs := keyV kz)
  generalize Array.size h2 = k11 at H3 ⊢
  generalize Array.push h2 _ = h3 at H3 ⊢
  refine H3.wrs (vs := keyV kz) (hv := y126 _) fun h4 H4 => y22 ?_ ?_
  ·rcases at_inl ea with rfl | rfl <;> rfl
  ·unfold AM.delete at kk
   rw [ea] at kk
   exact kk h4 (man_same lk (H4.sel 8 [1, 2, 3, 5, 6, 7]))
 ·obtain ⟨ef, e2, e3⟩ := y112 ea
  obtain ⟨ht, en0⟩ := y69 ef
  have hti := lk.ai.tx t ht
  subst en0
  unfold AM.delete at kk
  rw [ea] at kk
  simp only [Option.getD_some]
  dsimp only at kk
  have hw : WOk t.tn ⟨t.key ar en, false, e0⟩ := ⟨rfl, e2, e3 en rfl, by show e0.size ≤ 8192; decide, fun _ => rfl⟩
  generalize t.key ar en = k at kk hw ⊢
  have H3 := H2.new (t := y23) (cs := #[.string ⟨#[]⟩, .string ⟨#[]⟩, .string ⟨#[]⟩]) (xs := keyV kz)
  generalize Array.size h2 = k11 at H3 ⊢
  generalize Array.push h2 _ = h3 at H3 ⊢
  refine H3.wrs (vs := keyV k) (hv := y126 _) fun h4 H4 => y13 rfl ?_
  have H5 := man_take lk eo (H4.sel 8 [3, 0, 1, 2, 4, 5, 6, 7])
  refine ⟨_, H5.cell (off := 1) rfl, _, _, _, (H5.sel 4 [3, 0, 1, 2]).rdc0, ?_⟩
  refine VDelete_hs (H5.sel 2 [1, 0]) fun h7 H7 => ⟨rfl, kk h7 ?_⟩
  exact man_put lk ht eo (o' := { o with vs := o.vs.put ⟨k, false, e0⟩ }) (ol.stage hti.rise ⟨k, false, e0⟩) rfl rfl rfl (lk.ai.upds ht hw) (y113.2 (H7.sel 10 [1, 0, 2, 4, 7, 8, 9, 5]))
theorem look_le (lk : AI A) (ht : t ∈ A.txs) (k : Key) : ((A.look t k).getD e0).size ≤ 8192 := by
 unfold AM.look
 cases e : t.own k with
 | some w =>
  have hw := (lk.tx t ht).wok w (List.mem_of_find?_eq_some e)
  dsimp only
  split
  ·exact hw.d
  ·show (0 : Nat) ≤ _; decide
 | none =>
  dsimp only
  cases e2 : mget (A.sta t.snap) k with
  | none => show (0 : Nat) ≤ _; decide
  | some d =>
   have hm := y87 e2
   unfold AM.sta at hm
   cases e3 : A.sts[t.snap]? with
   | none => rw [e3] at hm; cases hm
   | some s => rw [e3] at hm; exact lk.dat s (List.mem_of_getElem? e3) _ hm
theorem MAdd_hs {n : Int} {ar en data : Nm} (hb : Bd A) (hds : data.size < 2 ^ 62) (H : Hs h (manA q A :: L)) (kk : ∀ h', Hs h' (manA q (A.add n ar en data).1 :: L) → Q (.int .i64 (A.add n ar en data).2) h') :
  SpecH PP z389 [.pointer (some ⟨q, 0, none⟩), .int .i64 n, .string ar, .string en, .string data] h Q := by
 obtain ⟨M, lk, H0⟩ := y68.1 H
 refine z388.door ?_
 dsimp only
 have H1 := H0.new (t := y29) (cs := #[.string en]) (xs := [.string en])
 generalize Array.size h = eb at H1 ⊢
 generalize Array.push h _ = h1 at H1 ⊢
 refine at_hs (en := some en) (L := pt eb y29 [.string en] :: storeA M.s M.cs :: cmsA M :: Sp (M.cms.map cmoA) :: L) lk (fun h H => H.ptrd rfl) (fun e => by cases e) (H1.sel 7 [1, 5, 6, 0, 2, 3, 4]) (fun e h2 ea H2 => ⟨_, _, _, _, _, rfl, ?_⟩) fun t o h2 ea eo ol H2 => ⟨_, _, _, _, _, rfl, ?_⟩
 ·have H3 := H2.new (t := y23) (cs := #[.string ⟨#[]⟩, .string ⟨#[]⟩, .string ⟨#[]⟩]) (xs := keyV kz)
  generalize Array.size h2 = k11 at H3 ⊢
  generalize Array.push h2 _ = h3 at H3 ⊢
  refine H3.wrs (vs := keyV kz) (hv := y126 _) fun h4 H4 => y22 ?_ ?_
  ·rcases at_inl ea with rfl | rfl <;> rfl
  ·unfold AM.add at kk
   rw [ea] at kk
   exact kk h4 (man_same lk (H4.sel 8 [1, 2, 3, 5, 6, 7]))
 ·obtain ⟨ef, e2, e3⟩ := y112 ea
  obtain ⟨ht, en0⟩ := y69 ef
  have hti := lk.ai.tx t ht
  subst en0
  unfold AM.add at kk
  rw [ea] at kk
  simp only [Option.getD_some]
  dsimp only at kk
  have hkk : (t.key ar en).t = t.tn ∧ shortB (t.key ar en).a = true ∧ znameB (t.key ar en).e = true := ⟨rfl, e2, e3 en rfl⟩
  generalize t.key ar en = k at kk hkk ⊢
  have H3 := H2.new (t := y23) (cs := #[.string ⟨#[]⟩, .string ⟨#[]⟩, .string ⟨#[]⟩]) (xs := keyV kz)
  generalize Array.size h2 = k11 at H3 ⊢
  generalize Array.push h2 _ = h3 at H3 ⊢
  refine H3.wrs (vs := keyV k) (hv := y126 _) fun h4 H4 => y13 rfl ⟨_, _, _, H4.rdc0, ?_⟩
  have H5 := man_take lk eo (H4.sel 8 [3, 0, 1, 2, 4, 5, 6, 7])
  have hle := look_le lk.ai ht k
  refine sees_hs lk hb ht ol (H5.sel 10 [4, 7, 0, 1, 2, 3, 5, 8, 9]) fun h6 H6 => ⟨_, _, _, rfl, ?_⟩
  obtain ⟨r1, r2, r3, r4, _⟩ := read_f t k
  have fin : ∀ {h' : Heap} {o1 : OT}, OLink A.first (t.read k) o1 → o1.b = o.b → o1.tn = o.tn → o1.s = o.s → Hs h' (pt o.b y54 [.string o.tn, ptrV o.s] :: setA o.s o1.vs :: pt k11 y23 (keyV k) :: fam opA (HW.mdel M.l (t.n : Int)) :: pt q y24 (mgV M) :: storeA M.s M.cs :: cmsA M :: Sp (M.cms.map cmoA) :: mp intK otV M.r M.l :: L) →
    z388.J1 data (some ⟨o.b, 0, none⟩) ⟨k11, 0, none⟩ ((A.look t k).getD e0) Q h' := by
   intro h' o1 ol1 eb1 et1 es1 H
   have no : 8192 < ((A.look t k).getD e0).size + data.size → z388.J2 data (some ⟨o.b, 0, none⟩) ⟨k11, 0, none⟩ ((A.look t k).getD e0) true Q h' := fun hd => by
    rw [if_pos hd] at kk
    refine z388.J2_of (y22 rfl (kk h' (man_put lk ht eo (o' := o1) ol1 eb1 r1 r2 (lk.ai.updr ht k) (y113.2 ?_))))
    rw [eb1, et1, es1]
    exact H.sel 9 [0, 1, 3, 4, 5, 6, 7, 8]
   refine z388.J1_of ((y16 _ _ _).2 ⟨fun hd => no ?_, fun hd => ?_⟩)
   ·have hd := of_decide_eq_true hd; omega
   have hd := of_decide_eq_false hd
   have ew : IntKind.i64.wrap (((((A.look t k).getD e0).size : Nat) : Int) + ((data.size : Nat) : Int)) = ((((A.look t k).getD e0).size + data.size : Nat) : Int) := by rw [y34 (by omega) (by omega)]; omega
   dsimp only
   rw [ew]
   by_cases hd2 : 8192 < ((A.look t k).getD e0).size + data.size
   ·rw [decide_eq_true (by omega)]; exact no hd2
   ·rw [decide_eq_false (by omega)]
    rw [if_neg hd2] at kk
    have hw : WOk t.tn ⟨k, true, (A.look t k).getD e0 ++ data⟩ := ⟨hkk.1, hkk.2.1, hkk.2.2, by show (_ ++ data).size ≤ 8192; rw [ByteArray.size_append]; omega, nofun⟩
    refine z388.J2_of (y13 rfl ⟨_, H.cell (off := 1) rfl, _, _, _, (H.sel 3 [2, 0, 1]).rdc0, y22 (decide_eq_true (by omega)) ?_⟩)
    refine VPut_hs (H.sel 2 [1, 0]) fun h7 H7 => ⟨rfl, kk h7 ?_⟩
    have hr1 : Rise (t.read k).st := by rw [r4]; exact hti.rise
    have ol2 := ol1.stage hr1 ⟨k, true, (A.look t k).getD e0 ++ data⟩
    refine man_put lk ht eo (o' := { o1 with vs := o1.vs.put ⟨k, true, (A.look t k).getD e0 ++ data⟩ }) ol2 eb1 r1 r2 ?_ (y113.2 ?_)
    ·refine lk.ai.upd ht r1 r2 (hr1.put _) (fun x hx => ?_) r3
     show WOk (t.read k).tn x
     rw [r3]
     have hx : x ∈ wput (t.read k).st ⟨k, true, (A.look t k).getD e0 ++ data⟩ := hx
     rw [r4] at hx
     exact (wput_sub hx).elim (fun q => q ▸ hw) fun q => hti.wok x q
    ·show Hs h7 (pt o1.b y54 [.string o1.tn, ptrV o1.s] :: setA o1.s (o1.vs.put ⟨k, true, (A.look t k).getD e0 ++ data⟩) :: _)
     rw [eb1, et1, es1]
     exact H7.sel 9 [1, 0, 3, 4, 5, 6, 7, 8]
  cases eo2 : (t.own k).isSome with
  | true =>
   have e : t.read k = t := by unfold ATx.read; rw [if_pos eo2]
   refine y13 rfl (fin (o1 := o) (by rw [e]; exact ol) rfl rfl rfl (H6.sel 9 [2, 3, 5, 4, 0, 1, 7, 8, 6]))
  | false =>
   refine y22 rfl ⟨_, (H6.sel 3 [2, 0, 1]).cell (off := 1) rfl, _, _, _, (H6.sel 6 [5, 0, 1, 2, 3, 4]).rdc0, ?_⟩
   refine VRead_hs (H6.sel 4 [3, 0, 1, 2]) fun h7 H7 => ⟨rfl, ?_⟩
   exact fin (o1 := { o with vs := o.vs.read k }) (ol.read k eo2) rfl rfl rfl (H7.sel 9 [3, 0, 5, 4, 1, 2, 7, 8, 6])
theorem MNow_hs (hb : Bd A) (H : Hs h (manA q A :: L)) (kk : Q (.int .i64 (A.now : Nat)) h) : SpecH PP z403 [.pointer (some ⟨q, 0, none⟩)] h Q := by
 obtain ⟨M, lk, H0⟩ := y68.1 H
 refine z402.door (y13 rfl ⟨_, H0.cell (off := 0) rfl, Now_hs H0.m1 ⟨_, rfl, ?_⟩⟩)
 have h1 := hb.first
 have h2 := hb.sts
 have h3 := lk.now
 have hn : A.now ≤ A.first + A.sts.length := by unfold AM.now; omega
 have ew : IntKind.i64.wrap (M.cs.now - 1) = ((A.now : Nat) : Int) := by rw [h3, y34 (by omega) (by omega)]; omega
 dsimp only
 rw [ew]
 exact kk
theorem MOwner_hs {n : Int} (H : Hs h (manA q A :: L)) (k1 : A.find n = none → Q (.tuple #[.string e0, .int .i64 140]) h) (k2 : ∀ t, A.find n = some t → Q (.tuple #[.string t.tn, .int .i64 0]) h) :
  SpecH PP z407 [.pointer (some ⟨q, 0, none⟩), .int .i64 n] h Q := by
 obtain ⟨M, lk, H0⟩ := y68.1 H
 refine z406.door (y13 rfl ⟨_, H0.cell (off := 2) rfl, ?_⟩)
 refine H0.m4.lookup2 y100 Ky_int zOp n ?_
 cases e : A.find n with
 | none =>
  rw [lk.fnone e]
  exact ⟨_, _, rfl, y22 rfl (k1 e)⟩
 | some t =>
  obtain ⟨o, eo, ol⟩ := lk.fsome e
  rw [eo]
  refine ⟨_, _, rfl, y13 rfl ⟨_, (y113.1 (H0.m5.fam_take lk.nd eo)).cell (off := 0) rfl, ?_⟩⟩
  rw [ol.tn]
  exact k2 t e
end Go.Proofs.YtglcanljknjcfaaGreatDoor

set_option maxRecDepth 20000
namespace Go.Proofs.YtglcanljknjcfaaGreatDoor
open Go Go.HW
variable {h : Heap} {L : List Assn} {Q : Value → Heap → Prop} {q : Nat} {A : AM} {M : MM}
theorem NowR_hs {a : OA} {n c r : Nat} {l : Int} (hn : M.cs.now = ((A.now + 1 : Nat) : Int)) (hb : A.now < 2 ^ 40) (H : Hs h (pt q y24 [ptrV M.s, .slice a n c, .map (some r), .int .i64 l] :: storeA M.s M.cs :: L)) (kk : Q (.int .i64 (A.now : Nat)) h) : SpecH PP z403 [.pointer (some ⟨q, 0, none⟩)] h Q := by
 refine z402.door (y13 rfl ⟨_, H.cell (off := 0) rfl, Now_hs H.m1 ⟨_, rfl, ?_⟩⟩)
 have ew : IntKind.i64.wrap (M.cs.now - 1) = ((A.now : Nat) : Int) := by rw [hn, y34 (by omega) (by omega)]; omega
 dsimp only
 rw [ew]
 exact kk
theorem LinkM.begin {b s : Nat} {tn : Nm} (lk : LinkM A M) (htn : shortB tn = true) (hl : ¬ 256 ≤ A.txs.length) : LinkM (A.begin tn).1 { M with l := mset M.l (A.next : Int) ⟨b, s, tn, VS.new (A.now : Nat)⟩, last := A.next } ∧ mget M.l (A.next : Int) = none := by
 have hai := lk.ai.begin tn
 have e : (A.begin tn).1 = { A with txs := A.txs ++ [⟨A.next, A.sts.length - 1, tn, [], [], []⟩], next := A.next + 1 } := by
  unfold AM.begin; rw [if_neg (by rw [htn]; simp), if_neg hl]
 have hfr : ∀ t ∈ A.txs, t.n ≠ A.next := fun t ht => by have := (lk.ai.tx t ht).n; omega
 have hno : mget M.l (A.next : Int) = none := by
  rw [y145, lk.ks.mem_iff]
  intro q
  obtain ⟨t, ht, et⟩ := List.mem_map.1 q
  exact hfr t ht (by omega)
 have hpos : 0 < A.sts.length := List.length_pos_iff.2 lk.ai.ne
 have hlen := lk.ai.len
 obtain ⟨j, h1, h2, h3, h4, h5⟩ := lk.st
 rw [e] at hai ⊢
 refine ⟨⟨hai, lk.ci, lk.now, ⟨j, h1, h2, h3, h4, fun x hx => ?_⟩, lk.tot, rfl, ?_, fun x hx => ?_⟩, hno⟩
 ·rcases List.mem_append.1 hx with q | q
  ·exact h5 x q
  ·rw [List.mem_singleton.1 q]; show j ≤ A.sts.length - 1; omega
 ·show ((mset M.l (A.next : Int) _).map (·.1)).Perm (List.map (fun t : ATx => (t.n : Int)) (A.txs ++ [_]))
  rw [keys_mset, if_neg (y145.1 hno), List.map_append]
  exact lk.ks.append_right _
 ·rcases List.mem_append.1 hx with q | q
  ·obtain ⟨o, g1, g2⟩ := lk.tx x q
   exact ⟨o, by rw [y159, if_neg (fun r => hfr x q (by omega))]; exact g1, g2⟩
  ·rw [List.mem_singleton.1 q]
   refine ⟨_, by rw [y159, if_pos rfl], ⟨rfl, ?_, .refl _, fun _ => rfl, fun _ => rfl, ⟨fun _ hx => absurd hx List.not_mem_nil, fun _ hx => absurd hx List.not_mem_nil, fun _ hx => absurd hx List.not_mem_nil⟩⟩⟩
   show ((A.now : Nat) : Int) = ((A.first + (A.sts.length - 1) : Nat) : Int)
   unfold AM.now; omega
theorem MBegin_hs {tn : Nm} (hb : Bd A) (H : Hs h (manA q A :: L)) (kk : ∀ h', Hs h' (manA q (A.begin tn).1 :: L) → Q (.tuple #[.int .i64 (A.begin tn).2.1, .int .i64 (A.begin tn).2.2]) h') : SpecH PP z391 [.pointer (some ⟨q, 0, none⟩), .string tn] h Q := by
 obtain ⟨M, lk, H0⟩ := y68.1 H
 have hlk := @LinkM.begin A M
 have hbn := hb.next
 have hbl := lk.last
 have hnow : A.now < 2 ^ 40 := by have := hb.first; have := hb.sts; unfold AM.now; omega
 refine z390.door (y13 rfl (Short_hs H0 fun h1 H1 => ⟨_, rfl, ?_⟩))
 refine (y16 _ _ _).2 ⟨fun e => ?_, fun e => ?_⟩
 ·have e : shortB tn = false := by simpa using e
  unfold AM.begin at kk
  rw [if_pos e] at kk
  exact kk h1 (y68.2 ⟨M, lk, H1⟩)
 have htn : shortB tn = true := by simpa using e
 have hml : M.l.length = A.txs.length := by have := lk.ks.length_eq; simpa using this
 refine ⟨_, H1.cell (off := 2) rfl, H1.m4.mlen y100 ⟨_, rfl, (y16 _ _ _).2 ⟨fun e2 => ?_, fun e2 => ?_⟩⟩⟩
 ·have e2 := of_decide_eq_true e2
  unfold AM.begin at kk
  rw [if_neg (by rw [htn]; simp), if_pos (by omega)] at kk
  exact kk h1 (y68.2 ⟨M, lk, H1⟩)
 have e2 := of_decide_eq_false e2
 have hl : ¬ 256 ≤ A.txs.length := by omega
 refine ⟨_, H1.cell (off := 3) rfl, ?_⟩
 have ew : IntKind.i64.wrap (((M.last : Nat) : Int) + 1) = ((A.next : Nat) : Int) := by rw [y34 (by omega) (by omega)]; omega
 dsimp only
 rw [ew]
 refine H1.sto (off := 3) (by simp [mgV]) fun h3 H3 => ?_
 have H3 : Hs h3 (pt q y24 [ptrV M.s, .slice M.ca M.cms.length M.cc, .map (some M.r), .int .i64 (A.next : Nat)] :: storeA M.s M.cs :: cmsA M :: Sp (M.cms.map cmoA) :: mp intK otV M.r M.l :: fam opA M.l :: L) := H3
 have cr := H3.cell (off := 2) rfl
 have cl := H3.cell (off := 3) rfl
 have fin : ∀ {h' : Heap} {s : Nat}, Hs h' (setA s (.new (A.now : Nat)) :: pt q y24 [ptrV M.s, .slice M.ca M.cms.length M.cc, .map (some M.r), .int .i64 (A.next : Nat)] :: storeA M.s M.cs :: cmsA M :: Sp (M.cms.map cmoA) :: mp intK otV M.r M.l :: fam opA M.l :: L) →
   hwp PP (Instr.mapUpdate y44 (.map (some M.r)) (.int .i64 (A.next : Nat)) (.pointer (some ⟨Array.size h', 0, none⟩))) (fun _ h41 => z390.J1 (some ⟨q, 0, none⟩) Q h41) (Array.push h' (.cells #[(.string tn), (.pointer (some ⟨s, 0, none⟩))] y54 (0, 0))) := by
  intro h' s H
  have H4 := H.new (t := y54) (cs := #[(.string tn), (.pointer (some ⟨s, 0, none⟩))]) (xs := [.string tn, ptrV s])
  generalize Array.size h' = b at H4 ⊢
  generalize Array.push h' _ = h4 at H4 ⊢
  obtain ⟨lk2, hno⟩ := lk.begin (b := b) (s := s) htn hl
  refine (H4.sel 8 [6, 0, 1, 2, 3, 4, 5, 7]).mset (t := y44) y100 Ky_int (A.next : Int) (⟨b, s, tn, VS.new (A.now : Nat)⟩ : OT) rfl fun h5 H5 => ?_
  refine z390.J1_of ⟨_, (H5.sel 4 [3, 0, 1, 2]).cell (off := 3) rfl, ?_⟩
  have H6 := (y113 (x := ⟨b, s, tn, VS.new (A.now : Nat)⟩)).2 (H5.sel 8 [1, 2, 7, 0, 3, 4, 5, 6])
  have ef : fam opA M.l = fam opA (HW.mdel M.l (A.next : Int)) := by rw [mdel_none hno]
  rw [ef] at H6
  have H7 := H6.fam_put lk.nd
  have := kk h5 (y68.2 ⟨_, lk2, H7.sel 6 [2, 3, 4, 5, 1, 0]⟩)
  unfold AM.begin at this
  rw [if_neg (by rw [htn]; simp), if_neg hl] at this
  exact this
 repeat' first
  | exact trivial
  | refine And.intro ?_ ?_
  | refine ⟨_, cr, ?_⟩
  | refine ⟨_, cl, ?_⟩
  | refine NowR_hs lk.now hnow H3 ⟨_, rfl, ?_⟩
  | refine VNew_hs H3 fun h5 s5 H5 => ⟨_, rfl, (fun (c2 : cellH h5 ⟨q, 2, none⟩ = some (.map (some M.r))) (c3 : cellH h5 ⟨q, 3, none⟩ = some (.int .i64 (A.next : Nat))) => ?_) (H5.m1.cell (off := 2) rfl) (H5.m1.cell (off := 3) rfl)⟩
  | refine ⟨_, (by assumption : cellH _ ⟨q, 2, none⟩ = some (.map (some M.r))), ?_⟩
  | refine ⟨_, (by assumption : cellH _ ⟨q, 3, none⟩ = some (.int .i64 (A.next : Nat))), ?_⟩
  | exact fin (by assumption)
end Go.Proofs.YtglcanljknjcfaaGreatDoor

set_option maxRecDepth 20000
namespace Go.Proofs.YtglcanljknjcfaaGreatDoor
open Go Go.HW
variable {h : Heap} {L : List Assn} {Q : Value → Heap → Prop} {q : Nat} {A : AM} {M : MM} {t t' : ATx} {o o' : OT}
theorem strs_uniq : ∀ {l m : List Nm}, l.Pairwise (fun x y => strLt x y = true) → m.Pairwise (fun x y => strLt x y = true) → (∀ x, x ∈ l ↔ x ∈ m) → l = m
 | [], [], _, _, _ => rfl
 | [], y :: m, _, _, h => absurd ((h y).2 (List.mem_cons_self ..)) (List.not_mem_nil)
 | x :: l, [], _, _, h => absurd ((h x).1 (List.mem_cons_self ..)) (List.not_mem_nil)
 | x :: l, y :: m, h1, h2, h => by
  have a1 := List.pairwise_cons.1 h1
  have a2 := List.pairwise_cons.1 h2
  have nx : x ∉ l := fun q => by have := a1.1 x q; rw [slt_irrefl] at this; cases this
  have ny : y ∉ m := fun q => by have := a2.1 y q; rw [slt_irrefl] at this; cases this
  have e : x = y := by
   rcases List.mem_cons.1 ((h x).1 (List.mem_cons_self ..)) with q | q
   ·exact q
   ·rcases List.mem_cons.1 ((h y).2 (List.mem_cons_self ..)) with r | r
    ·exact r.symm
    ·have b1 := a2.1 x q
     have b2 := a1.1 y r
     have := slt_trans b1 b2
     rw [slt_irrefl] at this; cases this
  subst e
  congr 1
  refine strs_uniq a1.2 a2.2 fun z => ⟨fun q => ?_, fun q => ?_⟩
  ·rcases List.mem_cons.1 ((h z).1 (List.mem_cons_of_mem _ q)) with r | r
   ·exact absurd (r ▸ q) nx
   ·exact r
  ·rcases List.mem_cons.1 ((h z).2 (List.mem_cons_of_mem _ q)) with r | r
   ·exact absurd (r ▸ q) ny
   ·exact r
theorem klt_same {x y : Key} (h : klt x y = true) (h1 : x.t = y.t) (h2 : x.a = y.a) : strLt x.e y.e = true := by
 unfold klt at h; rw [if_neg (by simpa using h1), if_neg (by simpa using h2)] at h; exact h
theorem snames_rise {s : Sta} (hs : SRise s) (b : Bx) : (snames s b).Pairwise fun x y => strLt x y = true := by
 unfold snames
 rw [List.pairwise_map]
 refine (hs.filter _).imp_of_mem fun {x y} hx hy hxy => ?_
 have hx := (List.mem_filter.1 hx).2
 have hy := (List.mem_filter.1 hy).2
 unfold inBx at hx hy
 simp at hx hy
 exact klt_same hxy (hx.1.trans hy.1.symm) (hx.2.trans hy.2.symm)
theorem snames_mem {s : Sta} (hs : SRise s) {b : Bx} {e : Nm} : e ∈ snames s b ↔ (mget s ⟨b.t, b.a, e⟩).isSome = true := by
 unfold snames
 rw [List.mem_map]
 constructor
 ·rintro ⟨⟨k, d⟩, hx, rfl⟩
  obtain ⟨h1, h2⟩ := List.mem_filter.1 hx
  unfold inBx at h2
  simp at h2
  have : (⟨b.t, b.a, k.e⟩ : Key) = k := by cases k; simp at h2 ⊢; exact ⟨h2.1.symm, h2.2.symm⟩
  rw [this, y105 hs.nodup h1]; rfl
 ·intro h
  obtain ⟨d, hd⟩ := Option.isSome_iff_exists.1 h
  exact ⟨_, List.mem_filter.2 ⟨y87 hd, by simp [inBx]⟩, rfl⟩
theorem look_sees (ai : AI A) (ht : t ∈ A.txs) (k : Key) : A.look t k = mget (A.sees t) k := by
 have hti := ai.tx t ht
 unfold AM.sees
 rw [mget_sall hti.rise (ai.sta _)]
 rfl
theorem names_eq {b : Bx} (ai : AI A) (ht : t ∈ A.txs) {dn l : List Nm} (hn : dn.Nodup) (hm : ∀ e, e ∈ dn ↔ (A.look t ⟨b.t, b.a, e⟩).isSome = true) (hp : l.Perm dn) (hs : l.Pairwise fun x y => strLt y x = false) : l = snames (A.sees t) b := by
 have hl : l.Nodup := hp.nodup_iff.2 hn
 have hst : SRise (A.sees t) := (ai.sta _).all
 have hs2 : l.Pairwise fun x y => strLt x y = true := by
  rw [List.nodup_iff_pairwise_ne] at hl
  refine (hs.and hl).imp fun ⟨h1, h2⟩ => ?_
  cases q : strLt _ _ with
  | true => rfl
  | false => exact absurd (slt_tri q h1) h2
 refine strs_uniq hs2 (snames_rise hst b) fun e => ?_
 rw [hp.mem_iff, hm e, look_sees ai ht, snames_mem hst]
def YA (out l df : Nat) (Lp : Loop) (dn : List Nm) : Assn := fun m => ∃ a c, Sp [ob l (.loop Lp), ob df (.deferred (some [])), pt out y78 [.slice a dn.length c], own a dn.length c y29 1 (dn.map Value.string)] m
theorem YA_open {out l df : Nat} {Lp : Loop} {dn : List Nm} {N : List Assn} : Hs h (YA out l df Lp dn :: N) ↔ ∃ a c, Hs h (ob l (.loop Lp) :: ob df (.deferred (some [])) :: pt out y78 [.slice a dn.length c] :: own a dn.length c y29 1 (dn.map Value.string) :: N) := by
 unfold YA
 simp only [Hs.ex, Hs.app, List.cons_append, List.nil_append]
theorem names1_hs {y : Value} {m3 b5 t4 : Nat} {b : Bx} (Y : List Nm → Assn) (hy : ∀ (dn : List Nm) (w : Nm) (N : List Assn) (h : Heap) (R : VP), dn.length < 2 ^ 32 → Hs h (Y dn :: N) → (∀ h', Hs h' (Y (dn ++ [w]) :: N) → R (.bool true) h') → callV PP y [.string w] R h)
  (lk : LinkM A M) (hb : Bd A) (ht : t ∈ A.txs) (ol : OLink A.first t o) (hbt : b.t = t.tn)
  (H : Hs h (Y [] :: pt m3 y95 [ptrV q] :: pt b5 y74 [.string b.t, .string b.a] :: pt t4 y101 [ptrV o.b] :: pt q y24 (mgV M) :: storeA M.s M.cs :: pt o.b y54 [.string o.tn, ptrV o.s] :: setA o.s o.vs :: L))
  (k : ∀ h' dn, dn.Nodup → (∀ e, e ∈ dn ↔ (A.look t ⟨b.t, b.a, e⟩).isSome = true) → dn.length < 2 ^ 32 → Hs h' (Y dn :: pt m3 y95 [ptrV q] :: pt b5 y74 [.string b.t, .string b.a] :: pt t4 y101 [ptrV o.b] :: pt q y24 (mgV M) :: storeA M.s M.cs :: pt o.b y54 [.string o.tn, ptrV o.s] :: setA o.s o.vs :: L) → Q (.tuple #[]) h') :
  SpecH PP z427 [y, .pointer (some ⟨m3, 0, none⟩), .pointer (some ⟨b5, 0, none⟩), .pointer (some ⟨t4, 0, none⟩)] h Q := by
 have hti := lk.ai.tx t ht
 have hbs := hb.sts
 have hbf := hb.first
 have hsn := hti.snap
 have htot : M.cs.total ≤ 2 ^ 30 := Nat.le_trans lk.tot hb.tot
 obtain ⟨T, hT⟩ : ∃ T : Int, T = ((A.first + t.snap + 1 : Nat) : Int) := ⟨_, rfl⟩
 have hw20 := hb.tx t ht
 have loop2 : ∀ (ks : List Key), KeysOf (fun k => (M.cs.get k T).2 && (decide (k.t = b.t) && decide (k.a = b.a))) ks → ks.length ≤ 2 ^ 30 →
   ∀ {h : Heap}, Hs h (Y ((ks.filter fun k => !(t.own k).isSome).map (·.e)) :: pt m3 y95 [ptrV q] :: pt b5 y74 [.string b.t, .string b.a] :: pt t4 y101 [ptrV o.b] :: pt q y24 (mgV M) :: storeA M.s M.cs :: pt o.b y54 [.string o.tn, ptrV o.s] :: setA o.s o.vs :: L) →
   (z426.K2 Q) (.exit 0) (z426.X0 y ⟨b5, 0, none⟩ ⟨t4, 0, none⟩) h := by
  intro ks hks hkl h H
  refine z426.L1_X0 ⟨_, (H.sel 4 [3, 0, 1, 2]).cell (off := 0) rfl, _, (H.sel 7 [6, 0, 1, 2, 3, 4, 5]).cell (off := 1) rfl, ?_⟩
  have hsl : o.vs.st.length = t.st.length := by have := ol.st.length_eq; simpa using this
  refine VWrites_hs ol.vi (by omega) (H.sel 8 [7, 0, 1, 2, 3, 4, 5, 6]) fun h1 a c ws hp hr H1 => ⟨_, _, _, rfl, ?_⟩
  have ews : ws = t.st := by
   refine rise_uniq hr hti.rise (hp.trans ((ol.st.map (·.2)).trans ?_))
   rw [List.map_map]
   show (t.st.map fun w => w).Perm t.st
   rw [List.map_id']
  subst ews
  have key : ∀ (r i : Nat) {h : Heap}, i + r = t.st.length →
    Hs h (Y ((ks.filter fun k => !(t.own k).isSome).map (·.e) ++ ((t.st.take i).filter fun w => w.there && decide (w.k.a = b.a)).map (·.k.e)) :: own a t.st.length c y25 5 (t.st.flatMap wrV) :: setA o.s o.vs :: pt m3 y95 [ptrV q] :: pt b5 y74 [.string b.t, .string b.a] :: pt t4 y101 [ptrV o.b] :: pt q y24 (mgV M) :: storeA M.s M.cs :: pt o.b y54 [.string o.tn, ptrV o.s] :: L) →
    z426.L2 y ⟨b5, 0, none⟩ a t.st.length c (t.st.length : Nat) (i : Nat) (z426.K3 Q) h := by
   intro r
   induction r with
   | zero =>
    intro i h hi H
    have : i = t.st.length := by omega
    subst this
    rw [List.take_length] at H
    refine z426.L2_of (y13 (by simp) (z426.L2_X2 (k h _ ?_ ?_ ?_ (H.sel 9 [0, 3, 4, 5, 6, 7, 8, 2]))))
    ·refine List.nodup_append.2 ⟨?_, ?_, ?_⟩
     ·rw [List.nodup_iff_pairwise_ne, List.pairwise_map]
      refine (hks.rise.filter _).imp_of_mem fun {x y'} hx hy' hxy e => ?_
      have hx := (hks.mem x).1 (List.mem_filter.1 hx).1
      have hy' := (hks.mem y').1 (List.mem_filter.1 hy').1
      simp at hx hy'
      have := klt_same hxy (hx.2.1.trans hy'.2.1.symm) (hx.2.2.trans hy'.2.2.symm)
      rw [e, slt_irrefl] at this; cases this
     ·rw [List.nodup_iff_pairwise_ne, List.pairwise_map]
      refine (hti.rise.filter _).imp_of_mem fun {x y'} hx hy' hxy e => ?_
      have hx1 := (List.mem_filter.1 hx).2
      have hy1 := (List.mem_filter.1 hy').2
      have hx2 := (hti.wok x (List.mem_filter.1 hx).1).t
      have hy2 := (hti.wok y' (List.mem_filter.1 hy').1).t
      simp at hx1 hy1
      have hxy : klt x.k y'.k = true := hxy
      have := klt_same hxy (hx2.trans hy2.symm) (hx1.2.trans hy1.2.symm)
      rw [e, slt_irrefl] at this; cases this
     ·rintro x hx y' hy' e
      obtain ⟨k1, hk1, rfl⟩ := List.mem_map.1 hx
      obtain ⟨w, hw, rfl⟩ := List.mem_map.1 hy'
      obtain ⟨g1, g2⟩ := List.mem_filter.1 hk1
      obtain ⟨g3, g4⟩ := List.mem_filter.1 hw
      have g1 := (hks.mem k1).1 g1
      have g5 := (hti.wok w g3).t
      simp at g1 g2 g4
      have : k1 = w.k := by
       cases k1 with | mk t1 a1 e1 => cases w with | mk kk th d => cases kk with | mk t2 a2 e2 =>
        simp at *
        exact ⟨by rw [g1.2.1, hbt, g5], by rw [g1.2.2, g4.2], e⟩
      subst this
      have : (t.own w.k) ≠ none := by
       unfold ATx.own wfind
       intro q
       have := List.find?_eq_none.1 q w g3
       simp at this
      exact this g2
    ·intro e
     rw [List.mem_append, List.mem_map, List.mem_map]
     have hget := lk.get ht ⟨b.t, b.a, e⟩
     rw [← hT] at hget
     constructor
     ·rintro (⟨k1, hk1, rfl⟩ | ⟨w, hw, rfl⟩)
      ·obtain ⟨g1, g2⟩ := List.mem_filter.1 hk1
       have g1 := (hks.mem k1).1 g1
       simp at g1 g2
       have ek : (⟨b.t, b.a, k1.e⟩ : Key) = k1 := by cases k1; simp at g1 ⊢; exact ⟨g1.2.1.symm, g1.2.2.symm⟩
       rw [ek] at hget ⊢
       unfold AM.look
       rw [g2]
       dsimp only
       have g3 := g1.1
       rw [hget] at g3
       cases em : mget (A.sta t.snap) k1 with
       | none => rw [em] at g3; cases g3
       | some d => rfl
      ·obtain ⟨g3, g4⟩ := List.mem_filter.1 hw
       have g5 := (hti.wok w g3).t
       simp at g4
       have ek : (⟨b.t, b.a, w.k.e⟩ : Key) = w.k := by cases w with | mk kk th d => cases kk; simp at *; exact ⟨by rw [hbt, g5], g4.2.symm⟩
       rw [ek]
       have eo : t.own w.k = some w := by
        have := y105 (rise_nodup hti.rise) (List.mem_map_of_mem (f := fun w : Wr => (w.k, w)) g3)
        rw [mget_ws] at this
        exact this
       unfold AM.look
       rw [eo]
       dsimp only
       rw [if_pos g4.1]; rfl
     ·intro hs
      unfold AM.look at hs
      cases eo : t.own ⟨b.t, b.a, e⟩ with
      | some w =>
       right
       have hm := List.mem_of_find?_eq_some (show wfind t.st ⟨b.t, b.a, e⟩ = some w from eo)
       have hk := List.find?_some (show wfind t.st ⟨b.t, b.a, e⟩ = some w from eo)
       have hk : w.k = ⟨b.t, b.a, e⟩ := by simpa using hk
       rw [eo] at hs
       dsimp only at hs
       refine ⟨w, List.mem_filter.2 ⟨hm, ?_⟩, by rw [hk]⟩
       cases hth : w.there with
       | true => rw [hk]; simp
       | false => rw [hth] at hs; cases hs
      | none =>
       left
       rw [eo] at hs
       dsimp only at hs
       refine ⟨⟨b.t, b.a, e⟩, List.mem_filter.2 ⟨(hks.mem _).2 ?_, by rw [eo]; rfl⟩, rfl⟩
       obtain ⟨d, hd⟩ := Option.isSome_iff_exists.1 hs
       rw [hget, hd]; simp [ofO]
    ·have h1 := List.length_filter_le (fun k => !(t.own k).isSome) ks
     have h2 := List.length_filter_le (fun w : Wr => w.there && decide (w.k.a = b.a)) t.st
     simp only [List.length_append, List.length_map]
     omega
   | succ r ih =>
    intro i h hi H
    have hl : i < t.st.length := by omega
    have ew : IntKind.i64.wrap (((i : Nat) : Int) + 1) = ((i + 1 : Nat) : Int) := by rw [y34 (by omega) (by omega)]; omega
    have nxt : ∀ {h' : Heap} {dn : List Nm}, dn = (ks.filter fun k => !(t.own k).isSome).map (·.e) ++ ((t.st.take (i + 1)).filter fun w => w.there && decide (w.k.a = b.a)).map (·.k.e) →
      Hs h' (Y dn :: own a t.st.length c y25 5 (t.st.flatMap wrV) :: setA o.s o.vs :: pt m3 y95 [ptrV q] :: pt b5 y74 [.string b.t, .string b.a] :: pt t4 y101 [ptrV o.b] :: pt q y24 (mgV M) :: storeA M.s M.cs :: pt o.b y54 [.string o.tn, ptrV o.s] :: L) →
      z426.J4 y ⟨b5, 0, none⟩ a t.st.length c (t.st.length : Nat) (i : Nat) (z426.K3 Q) h' := by
     intro h' dn e H'
     subst e
     refine z426.J4_of ?_
     dsimp only
     rw [ew]
     exact ih (i + 1) (by omega) H'
    have etk : ∀ p : Wr → Bool, (t.st.take (i + 1)).filter p = (t.st.take i).filter p ++ if p (t.st[i]) then [t.st[i]] else [] := fun p => by
     rw [List.take_succ_eq_append_getElem hl, List.filter_append]
     congr 1
     simp only [List.filter_cons, List.filter_nil]
    refine z426.L2_of (y22 (by simp; omega) ?_)
    refine idxf (φ := wrV) (x := t.st[i]) y122 H.m1.rd (fun _ => rfl) (by decide) (by omega) (by omega) (by rw [Int.toNat_natCast, List.getElem?_eq_getElem hl]) fun t1 hrd => ⟨_, _, _, _, _, hrd, ?_⟩
    have H2 := H.new (t := y25) (cs := #[.string ⟨#[]⟩, .string ⟨#[]⟩, .string ⟨#[]⟩, .bool false, .string ⟨#[]⟩]) (xs := wrV noW)
    generalize Array.size h = w10 at H2 ⊢
    generalize Array.push h _ = h2 at H2 ⊢
    refine H2.wrs (vs := wrV t.st[i]) (hv := wrV_one1 _) fun h3 H3 => ⟨_, H3.cell (off := 3) rfl, (y16 _ _ _).2 ⟨fun e1 => ⟨_, H3.cell (off := 1) rfl, _, (H3.sel 6 [5, 0, 1, 2, 3, 4]).cell (off := 1) rfl, (y16 _ _ _).2 ⟨fun e2 => ?_, fun e2 => ?_⟩⟩, fun e1 => ?_⟩⟩
    ·have e2 := of_decide_eq_true e2
     refine ⟨_, H3.cell (off := 2) rfl, ?_⟩
     have hlen : (((ks.filter fun k => !(t.own k).isSome).map (·.e) ++ ((t.st.take i).filter fun w => w.there && decide (w.k.a = b.a)).map (·.k.e)).length) < 2 ^ 32 := by
      have h1 := List.length_filter_le (fun k => !(t.own k).isSome) ks
      have h2 := List.length_filter_le (fun w : Wr => w.there && decide (w.k.a = b.a)) (t.st.take i)
      simp only [List.length_append, List.length_map, List.length_take] at h2 ⊢
      omega
     refine hy _ _ _ _ _ hlen H3.m1 fun h4 H4 => ⟨_, rfl, y13 rfl (nxt ?_ (H4.sel 2 [0]))⟩
     rw [etk, if_pos (by rw [e1, decide_eq_true e2]; rfl), List.map_append, List.append_assoc]; rfl
    ·have e2 := of_decide_eq_false e2
     refine nxt ?_ H3.tl
     rw [etk, if_neg (by rw [decide_eq_false e2]; simp), List.append_nil]
    ·refine nxt ?_ H3.tl
     rw [etk, if_neg (by rw [e1]; simp), List.append_nil]
  exact key t.st.length 0 (by omega) (by
   simp only [List.take_zero, List.filter_nil, List.map_nil, List.append_nil]
   exact H1.sel 9 [2, 0, 1, 3, 4, 5, 6, 7, 8])
 have loop1 : ∀ (ks : List Key), KeysOf (fun k => (M.cs.get k T).2 && (decide (k.t = b.t) && decide (k.a = b.a))) ks → ks.length ≤ 2 ^ 30 → ∀ {a : OA} {c : Nat} {h : Heap},
   Hs h (own a ks.length c y29 1 (ks.map fun k => .string k.e) :: Y [] :: pt m3 y95 [ptrV q] :: pt b5 y74 [.string b.t, .string b.a] :: pt t4 y101 [ptrV o.b] :: pt q y24 (mgV M) :: storeA M.s M.cs :: pt o.b y54 [.string o.tn, ptrV o.s] :: setA o.s o.vs :: L) →
   z426.J1 y ⟨b5, 0, none⟩ ⟨t4, 0, none⟩ a ks.length c (ks.length : Nat) 0 Q h := by
  intro ks hks hkl a c h H
  refine z426.J1_of ?_
  have go : ∀ (r i : Nat) {h : Heap}, i + r = ks.length → Hs h (own a ks.length c y29 1 (ks.map fun k => .string k.e) :: Y (((ks.take i).filter fun k => !(t.own k).isSome).map (·.e)) :: pt m3 y95 [ptrV q] :: pt b5 y74 [.string b.t, .string b.a] :: pt t4 y101 [ptrV o.b] :: pt q y24 (mgV M) :: storeA M.s M.cs :: pt o.b y54 [.string o.tn, ptrV o.s] :: setA o.s o.vs :: L) →
    z426.L1 y ⟨b5, 0, none⟩ ⟨t4, 0, none⟩ a ks.length c (ks.length : Nat) (i : Nat) (z426.K2 Q) h := by
   intro r
   induction r with
   | zero =>
    intro i h hi H
    have : i = ks.length := by omega
    subst this
    rw [List.take_length] at H
    exact z426.L1_of (y13 (by simp) (loop2 ks hks hkl H.tl))
   | succ r ih =>
    intro i h hi H
    have hl : i < ks.length := by omega
    have hmem := (hks.mem ks[i]).1 (List.getElem_mem hl)
    simp at hmem
    have ek : (⟨b.t, b.a, (ks[i]).e⟩ : Key) = ks[i] := by
     cases eq : ks[i] with | mk t1 a1 e1 => rw [eq] at hmem; simp at hmem ⊢; exact ⟨hmem.2.1.symm, hmem.2.2.symm⟩
    have ew : IntKind.i64.wrap (((i : Nat) : Int) + 1) = ((i + 1 : Nat) : Int) := by rw [y34 (by omega) (by omega)]; omega
    have etk : (ks.take (i + 1)).filter (fun k => !(t.own k).isSome) = (ks.take i).filter (fun k => !(t.own k).isSome) ++ if (!(t.own ks[i]).isSome) = true then [ks[i]] else [] := by
     rw [List.take_succ_eq_append_getElem hl, List.filter_append]
     congr 1
     simp only [List.filter_cons, List.filter_nil]
    have j2 : ∀ {h' : Heap}, Hs h' (own a ks.length c y29 1 (ks.map fun k => .string k.e) :: Y (((ks.take i).filter fun k => !(t.own k).isSome).map (·.e)) :: pt m3 y95 [ptrV q] :: pt b5 y74 [.string b.t, .string b.a] :: pt t4 y101 [ptrV o.b] :: pt q y24 (mgV M) :: storeA M.s M.cs :: pt o.b y54 [.string o.tn, ptrV o.s] :: setA o.s o.vs :: L) →
      z426.J2 y ⟨b5, 0, none⟩ ⟨t4, 0, none⟩ (ks[i]).e (o.vs.own ks[i]).2 a ks.length c (ks.length : Nat) (i : Nat) (z426.K2 Q) h' := by
     intro h' H
     have ho : (o.vs.own ks[i]).2 = (t.own ks[i]).isSome := by
      rw [ol.own hti.rise]; cases t.own ks[i] <;> rfl
     rw [ho]
     refine z426.J2_of ((y16 _ _ _).2 ⟨fun e => ?_, fun e => ?_⟩)
     ·have hlen : (((ks.take i).filter fun k => !(t.own k).isSome).map (·.e)).length < 2 ^ 32 := by
       have h1 := List.length_filter_le (fun k => !(t.own k).isSome) (ks.take i)
       simp only [List.length_map, List.length_take] at h1 ⊢
       omega
      refine hy _ _ _ _ _ hlen H.m1 fun h4 H4 => ⟨_, rfl, y13 rfl (z426.J3_of ?_)⟩
      dsimp only
      rw [ew]
      refine ih (i + 1) (by omega) ?_
      rw [etk, if_pos e, List.map_append]
      exact H4.m1
     ·refine z426.J3_of ?_
      dsimp only
      rw [ew]
      refine ih (i + 1) (by omega) ?_
      rw [etk, if_neg (by rw [e]; simp), List.append_nil]
      exact H
    refine z426.L1_of (y22 (by simp; omega) ?_)
    refine idx y181 (v := .string (ks[i]).e) H.rd (by omega) (by omega) (by rw [Int.toNat_natCast, List.getElem?_map, List.getElem?_eq_getElem hl]; rfl) fun t1 hrd => ⟨_, hrd, ?_⟩
    have H5 := H.sel 9 [3, 4, 7, 8, 0, 1, 2, 5, 6]
    refine ⟨_, H5.m1.cell (off := 0) rfl, _, (H5.sel 3 [2, 0, 1]).cell (off := 1) rfl, _, H5.cell (off := 0) rfl, _, H5.cell (off := 1) rfl, ⟨?_, ?_, trivial⟩⟩
    ·have HO := H5.sel 4 [3, 0, 1, 2]
     refine VOwn_hs (k := ⟨b.t, b.a, (ks[i]).e⟩) HO fun h3 H3 => ⟨_, _, _, _, _, _, rfl, ?_⟩
     rw [ek] at *
     have H4 := H3.new (t := y25) (cs := #[.string ⟨#[]⟩, .string ⟨#[]⟩, .string ⟨#[]⟩, .bool false, .string ⟨#[]⟩]) (xs := wrV noW)
     generalize Array.size h3 = w9 at H4 ⊢
     generalize Array.push h3 _ = h4 at H4 ⊢
     exact H4.wrs (vs := wrV (o.vs.own ks[i]).1) (hv := wrV_one1 _) fun h5 H5 => j2 (H5.sel 10 [5, 6, 7, 2, 3, 8, 9, 4, 1])
    ·have H6 := H5.new (t := y25) (cs := #[.string ⟨#[]⟩, .string ⟨#[]⟩, .string ⟨#[]⟩, .bool false, .string ⟨#[]⟩]) (xs := wrV noW)
     generalize Array.size h = w9 at H6 ⊢
     generalize Array.push h _ = h6 at H6 ⊢
     refine VOwn_hs (k := ⟨b.t, b.a, (ks[i]).e⟩) (H6.sel 5 [4, 0, 1, 2, 3]) fun h3 H3 => ⟨_, _, _, _, _, _, rfl, ?_⟩
     rw [ek] at *
     exact (H3.sel 2 [1, 0]).wrs (vs := wrV (o.vs.own ks[i]).1) (hv := wrV_one1 _) fun h5 H5 => j2 (H5.sel 10 [5, 6, 7, 2, 3, 8, 9, 4, 1])
  exact go ks.length 0 (by omega) (by simpa using H)
 have H0 := H.sel 8 [1, 2, 3, 4, 5, 6, 7, 0]
 have c1 := H0.cell (off := 0) rfl
 have c2 := (H0.m1).rdc0
 have c3 := (H0.sel 3 [2, 0, 1]).cell (off := 0) rfl
 have c4 := (H0.sel 4 [3, 0, 1, 2]).cell (off := 0) rfl
 have c5 := (H0.sel 6 [5, 0, 1, 2, 3, 4]).cell (off := 1) rfl
 have HS := H0.sel 7 [6, 0, 1, 2, 3, 4, 5]
 have ew2 : IntKind.i64.wrap (o.vs.at_ + 1) = ((A.first + t.snap + 1 : Nat) : Int) := by rw [ol.at_, y34 (by omega) (by omega)]; omega
 have fin : SpecH PP z217 [.pointer (some ⟨M.s, 0, none⟩), .agg #[.string b.t, .string b.a], .int .i64 (IntKind.i64.wrap (o.vs.at_ + 1))] h (fun v_1 h2 => ∃ (t22 : OA) (t22n t22c : Nat), v_1 = (.slice t22 t22n t22c) ∧ z426.J1 y ⟨b5, 0, none⟩ ⟨t4, 0, none⟩ t22 t22n t22c (t22n : Int) 0 Q h2) := by
  rw [ew2, ← hT]
  refine CList_hs (b := b) lk.ci (by omega) (H0.sel 5 [4, 0, 1, 2, 3]) fun h2 a c ks hks hkl H2 => ⟨_, _, _, rfl, ?_⟩
  exact loop1 ks hks (by omega) (H2.sel 9 [0, 8, 2, 3, 4, 5, 1, 6, 7])
 refine z426.door ⟨_, c3, _, c5, ?_⟩
 repeat' first
  | exact trivial
  | refine And.intro ?_ ?_
  | refine ⟨_, c1, ?_⟩
  | refine ⟨_, c4, ?_⟩
  | refine ⟨_, _, c2, ?_⟩
  | refine VAt_hs HS ⟨_, rfl, ?_⟩
  | exact fin
end Go.Proofs.YtglcanljknjcfaaGreatDoor

set_option maxRecDepth 20000
namespace Go.Proofs.YtglcanljknjcfaaGreatDoor
open Go Go.HW
variable {h : Heap} {L : List Assn} {Q : Value → Heap → Prop} {q : Nat} {A : AM} {M : MM} {t t' : ATx} {o o' : OT}
theorem nd_fam {α β : Type} {F : β → Assn} {l : List (α × β)} (hF : ∀ x m, F x m → F x (nd m)) {m : PM} (h : fam F l m) : fam F l (nd m) := by
 unfold fam at *
 refine nd_sp (fun B hB => ?_) h
 obtain ⟨x, _, rfl⟩ := List.mem_map.1 hB
 exact hF x.2
theorem nd_store {s : Nat} {v : CS} {m : PM} (h : storeA s v m) : storeA s v (nd m) := by
 obtain ⟨l, r, e, H⟩ := h
 refine ⟨l, r, e, nd_sp (fun B hB => ?_) H⟩
 simp only [List.mem_cons, List.not_mem_nil, or_false] at hB
 rcases hB with rfl | rfl | rfl
 ·exact fun m => nd_pt
 ·exact fun m => nd_mp
 ·exact fun m => nd_fam fun x m h => nd_own h
theorem nd_set {s : Nat} {v : VS} {m : PM} (h : setA s v m) : setA s v (nd m) := by
 obtain ⟨r1, r2, r3, H⟩ := h
 refine ⟨r1, r2, r3, nd_sp (fun B hB => ?_) H⟩
 simp only [List.mem_cons, List.not_mem_nil, or_false] at hB
 rcases hB with rfl | rfl | rfl | rfl
 ·exact fun m => nd_pt
 ·exact fun m => nd_mp
 ·exact fun m => nd_mp
 ·exact fun m => nd_mp
theorem nd_op {x : OT} {m : PM} (h : opA x m) : opA x (nd m) := by
 refine nd_sp (fun B hB => ?_) h
 simp only [List.mem_cons, List.not_mem_nil, or_false] at hB
 rcases hB with rfl | rfl
 ·exact fun m => nd_pt
 ·exact fun m => nd_set
theorem nd_man {m : PM} (h : manA q A m) : manA q A (nd m) := by
 obtain ⟨M, lk, H⟩ := h
 refine ⟨M, lk, nd_sp (fun B hB => ?_) H⟩
 simp only [List.mem_cons, List.not_mem_nil, or_false] at hB
 rcases hB with rfl | rfl | rfl | rfl | rfl | rfl
 ·exact fun m => nd_pt
 ·exact fun m => nd_store
 ·exact fun m => nd_own
 ·refine fun m h => nd_sp (fun C hC => ?_) h
  obtain ⟨x, _, rfl⟩ := List.mem_map.1 hC
  exact fun m => nd_own
 ·exact fun m => nd_mp
 ·exact fun m => nd_fam fun x m h => nd_op h
theorem Bd.upd (hb : Bd A) (ht : t ∈ A.txs) (hs : t'.st.length ≤ 2 ^ 20) : Bd (A.upd t') := ⟨hb.first, hb.sts, hb.tot, fun x hx => by
 obtain ⟨y, hy, rfl⟩ := List.mem_map.1 hx
 split
 ·exact hs
 ·exact hb.tx y hy, hb.next⟩
theorem upd_mem (ht : t ∈ A.txs) (hn : t'.n = t.n) : t' ∈ (A.upd t').txs := List.mem_map.2 ⟨t, ht, by rw [if_pos hn.symm]⟩
theorem MList_hs {n : Int} {ar : Nm} (hb : Bd A) (H : Hs h (manA q A :: L))
  (kk : ∀ h' a c, (A.list n ar).2.1.length < 2 ^ 40 → Hs h' (own a (A.list n ar).2.1.length c y29 1 ((A.list n ar).2.1.map Value.string) :: manA q (A.list n ar).1 :: L) → Q (.tuple #[.slice a (A.list n ar).2.1.length c, .int .i64 (A.list n ar).2.2]) h') :
  SpecH PP z401 [.pointer (some ⟨q, 0, none⟩), .int .i64 n, .string ar] h Q := by
 obtain ⟨m, sm, s0, HE⟩ := Hs.em2 (As := [manA q A]) H
 have nd2 : ∀ {a : OA} {k c : Nat} {xs : List Value} {B : AM}, Ndc [own a k c y29 1 xs, manA q B] := fun {a k c xs B} C hC => by
  simp only [List.mem_cons, List.not_mem_nil, or_false] at hC
  rcases hC with rfl | rfl
  ·exact fun m => nd_own
  ·exact fun m => nd_man
 obtain ⟨M, lk, H0⟩ := y68.1 HE
 refine SpecH.keepD (z400.door ?_)
 refine at_hs (en := none) (a := none) (c := 0) (L := storeA M.s M.cs :: cmsA M :: Sp (M.cms.map cmoA) :: [Em m]) lk (fun h _ => Rd.nil h _) (fun _ => rfl) (H0.sel 6 [0, 4, 5, 1, 2, 3]) (fun e h2 ea H2 => ⟨_, _, _, _, _, rfl, ?_⟩) fun t o h2 ea eo ol H2 => ⟨_, _, _, _, _, rfl, ?_⟩
 ·have H3 := H2.new (t := y23) (cs := #[.string ⟨#[]⟩, .string ⟨#[]⟩, .string ⟨#[]⟩]) (xs := keyV kz)
  dsimp only
  generalize Array.size h2 = k11 at H3 ⊢
  generalize Array.push h2 _ = h3 at H3 ⊢
  refine H3.wrs (vs := keyV kz) (hv := y126 _) fun h4 H4 => y22 ?_ fun h5 tk kd => ?_
  ·rcases at_inl ea with rfl | rfl <;> rfl
  ·unfold AM.list at kk
   rw [ea] at kk
   have H5 := (man_same lk (H4.sel 8 [1, 2, 3, 4, 5, 6, 7])).own_nil y29 1
   exact kk h5 none 0 (by show (0 : Nat) < _; decide) (Hs.takes2 (As := [own none 0 0 y29 1 [], manA q A]) (M := []) H5 sm s0 tk kd nd2)
 ·obtain ⟨ef, _, _⟩ := y112 ea
  obtain ⟨ht, en0⟩ := y69 ef
  have hti := lk.ai.tx t ht
  subst en0
  unfold AM.list at kk
  rw [ea] at kk
  dsimp only at kk
  obtain ⟨b, hbt⟩ : ∃ b : Bx, b = ⟨t.tn, ar⟩ := ⟨_, rfl⟩
  rw [← hbt] at kk
  have H3 := H2.new (t := y23) (cs := #[.string ⟨#[]⟩, .string ⟨#[]⟩, .string ⟨#[]⟩]) (xs := keyV kz)
  dsimp only
  generalize Array.size h2 = k9 at H3 ⊢
  generalize Array.push h2 _ = h3 at H3 ⊢
  refine H3.wrs (vs := keyV (t.key ar e0)) (hv := y126 _) fun h4 H4 => y13 rfl ⟨_, H4.cell (off := 0) rfl, _, H4.cell (off := 1) rfl, ?_⟩
  have H5 := man_take lk eo (H4.sel 7 [3, 0, 1, 2, 4, 5, 6])
  have H6 := H5.new (t := y74) (cs := #[.string ⟨#[]⟩, .string ⟨#[]⟩]) (xs := [.string ⟨#[]⟩, .string ⟨#[]⟩])
  generalize Array.size h4 = b11 at H6 ⊢
  generalize Array.push h4 _ = h6 at H6 ⊢
  have ebx : ([.string (t.key ar e0).t, .string (t.key ar e0).a] : List Value) = [.string b.t, .string b.a] := by rw [hbt]; rfl
  refine H6.wrs (vs := [.string (t.key ar e0).t, .string (t.key ar e0).a]) fun h7 H7 => ⟨_, H7.m1.cell (off := 1) rfl, _, _, H7.rdc0, ?_⟩
  rw [ebx] at H7
  rw [show (Value.agg #[.string (t.key ar e0).t, .string (t.key ar e0).a]) = bxA b by rw [hbt]; rfl]
  refine VList_hs (b := b) (H7.sel 3 [2, 0, 1]) fun h8 H8 => ⟨rfl, ?_⟩
  have H9 := H8.new (t := y78) (cs := #[.slice none 0 0]) (xs := [.slice none 0 0])
  generalize Array.size h8 = out at H9 ⊢
  generalize Array.push h8 _ = h9 at H9 ⊢
  refine ⟨_, _, (H9.sel 3 [2, 0, 1]).rdc0, ?_⟩
  refine z424.door ?_
  dsimp only
  have G1 := H9.new (t := y95) (cs := #[.pointer (some ⟨q, 0, none⟩)]) (xs := [ptrV q])
  generalize Array.size h9 = m3 at G1 ⊢
  generalize Array.push h9 _ = g1 at G1 ⊢
  have G2 := G1.new (t := y101) (cs := #[.pointer (some ⟨o.b, 0, none⟩)]) (xs := [ptrV o.b])
  generalize Array.size g1 = t4 at G2 ⊢
  generalize Array.push g1 _ = g2 at G2 ⊢
  have G3 := G2.new (t := y74) (cs := #[.string b.t, .string b.a]) (xs := [.string b.t, .string b.a])
  generalize Array.size g2 = b5 at G3 ⊢
  generalize Array.push g2 _ = g3 at G3 ⊢
  refine ⟨_, rfl, z427, #[], #[.pointer (some ⟨m3, 0, none⟩), .pointer (some ⟨b5, 0, none⟩), .pointer (some ⟨t4, 0, none⟩)], rfl, by kernel_rfl, fun fn tmps hf => ?_⟩
  generalize hL : (Loop.mk .ready none fn tmps #[40] (z400.cd 2036) (z400.cd 2037) g3.size) = Lp
  have G4 := (G3.push (.deferred (some []))).push (.loop Lp)
  rw [Array.size_push] at G4
  generalize (Array.push (Array.push g3 (.deferred (some []))) (.loop Lp)) = g4 at G4 ⊢
  generalize Array.size g3 = df at G4 hL ⊢
  have lk2 := lk.upd ht eo (ol.list b) (t' := t.list b) rfl rfl (lk.ai.updl ht b)
  have hb2 : Bd (A.upd (t.list b)) := hb.upd ht (hb.tx t ht)
  have ht2 : t.list b ∈ (A.upd (t.list b)).txs := upd_mem ht rfl
  show SpecH PP z427 [_, _, _, _] _ _
  refine names1_hs (q := q) (A := A.upd (t.list b)) (M := { M with l := mset M.l (t.n : Int) { o with vs := o.vs.list b } }) (t := t.list b) (o := { o with vs := o.vs.list b }) (b := b)
   (L := pt k9 y23 (keyV (t.key ar e0)) :: pt b11 y74 [.string b.t, .string b.a] :: fam opA (HW.mdel M.l (t.n : Int)) :: mp intK otV M.r M.l :: cmsA M :: Sp (M.cms.map cmoA) :: [Em m]) (YA out (df + 1) df Lp) ?_ lk2 hb2 ht2 (ol.list b) (by rw [hbt]; rfl) ?_ ?_
  ·intro dn w N h R hl H rt
   obtain ⟨a, c, H⟩ := YA_open.1 H
   refine z400.R1_yield (t6 := none) (t6n := 0) (t6c := 0) (t7 := 0) (out12 := ⟨out, 0, none⟩) H.get (by rw [← hL]) (by rw [← hL]) (by rw [← hL]) (by rw [← hL]; exact hf) (z400.R1_of ?_)
   refine ⟨Lp, H.get, by rw [← hL], ?_⟩
   have K1 := H.set (.loop { Lp with state := .busy })
   dsimp only
   generalize h.setIfInBounds (df + 1) (.loop { Lp with state := .busy }) = h3 at K1 ⊢
   refine ⟨_, _, _, (K1.sel 3 [2, 0, 1]).cell (off := 0) rfl, ?_⟩
   refine str_app (l := dn) (w := w) (by omega) (K1.sel 4 [3, 0, 1, 2]) fun h5 a5 c5 K2 => ⟨_, _, _, rfl, ?_⟩
   refine (K2.sel 4 [3, 0, 1, 2]).sto (off := 0) (by simp) fun h6 K3 => ?_
   refine ⟨{ Lp with state := .busy }, (K3.sel 3 [2, 0, 1]).get, ?_⟩
   have eL : endL { Lp with state := .busy } none = .loop Lp := by rw [← hL]; rfl
   rw [eL]
   have K4 := (K3.sel 4 [2, 3, 0, 1]).set (.loop Lp)
   exact rt _ (YA_open.2 ⟨a5, c5, K4⟩)
  ·have G5 := G4.own_nil y29 1
   have G6 := (YA_open (out := out) (l := df + 1) (df := df) (Lp := Lp) (dn := [])).2 ⟨none, 0, G5.sel 7 [1, 2, 6, 0, 3, 4, 5]⟩
   exact G6.sel 14 [0, 3, 1, 2, 9, 11, 6, 4, 8, 5, 7, 10, 12, 13]
  ·intro h' dn hn hm hdl H'
   obtain ⟨a, c, H'⟩ := YA_open.1 H'
   refine ⟨Lp, H'.get, by rw [← hL]; simp, H'.m1.get, ?_⟩
   have K1 := H'.set (.loop { Lp with state := .exhausted })
   generalize h'.setIfInBounds (df + 1) (.loop { Lp with state := .exhausted }) = k1 at K1 ⊢
   rw [show Lp.pending = none by rw [← hL]]
   show z400.K1 _ .normal _ _
   refine z400.R1_outn0 ⟨_, _, _, (K1.sel 3 [2, 0, 1]).cell (off := 0) rfl, ?_⟩
   refine sort_hs (l := dn) rfl (by omega) (K1.sel 4 [3, 0, 1, 2]) fun h3 l' hp hs K2 => ⟨rfl, _, _, _, (K2.sel 4 [3, 0, 1, 2]).cell (off := 0) rfl, fun h4 tk kd => ?_⟩
   have en : l' = snames (A.sees t) b := names_eq lk2.ai ht2 hn hm hp hs
   have el : dn.length = (snames (A.sees t) b).length := by rw [← en, hp.length_eq]
   have K3 : Hs h3 (manA q (A.upd (t.list b)) :: own a dn.length c y29 1 (l'.map Value.string) :: [Em m]) :=
    man_put lk ht eo (o' := { o with vs := o.vs.list b }) (ol.list b) rfl rfl rfl (lk.ai.updl ht b) (y113.2 (K2.sel 17 [9, 10, 13, 7, 8, 15, 16, 14, 0]))
   rw [el, en] at K3
   rw [el]
   exact kk h4 a c (by omega) (Hs.takes2 (As := [own a (snames (A.sees t) b).length c y29 1 ((snames (A.sees t) b).map Value.string), manA q (A.upd (t.list b))]) (M := []) K3.m1 sm s0 tk kd nd2)
end Go.Proofs.YtglcanljknjcfaaGreatDoor

set_option maxRecDepth 20000
namespace Go.Proofs.YtglcanljknjcfaaGreatDoor
open Go Go.HW
variable {h : Heap} {L : List Assn} {Q : Value → Heap → Prop} {q : Nat} {A : AM} {M : MM} {t t' : ATx} {o o' : OT}
def sumE (D : List Arc) : Nat := (D.map fun x => x.es.length).sum
def sumB (D : List Arc) : Nat := (D.map fun x => esz x.es).sum
theorem dstep_sum (D : List Arc) (k : Key) (d : Nm) : (dstep D k d).length ≤ D.length + 1 ∧ sumE (dstep D k d) = sumE D + 1 ∧ sumB (dstep D k d) = sumB D + d.size := by
 have new : (D ++ [(⟨k.t, k.a, [⟨k.e, d⟩]⟩ : Arc)]).length ≤ D.length + 1 ∧ sumE (D ++ [(⟨k.t, k.a, [⟨k.e, d⟩]⟩ : Arc)]) = sumE D + 1 ∧ sumB (D ++ [(⟨k.t, k.a, [⟨k.e, d⟩]⟩ : Arc)]) = sumB D + d.size := by
  refine ⟨by simp, ?_, ?_⟩
  ·unfold sumE; simp
  ·unfold sumB esz; simp
 rcases List.eq_nil_or_concat D with e | ⟨l, x, e⟩
 ·subst e; exact new
 ·rw [List.concat_eq_append] at e
  subst e
  unfold dstep
  rw [List.getLast?_concat]
  dsimp only
  split
  ·rw [List.dropLast_concat]
   refine ⟨by simp, ?_, ?_⟩
   ·unfold sumE; simp; omega
   ·unfold sumB esz; simp; omega
  ·exact new
theorem sdump_sum (s : Sta) : (sdump s).length ≤ s.length ∧ sumE (sdump s) = s.length ∧ sumB (sdump s) = (s.map fun x => x.2.size).sum := by
 have key : ∀ (s : Sta) (D : List Arc), (s.foldl (fun D x => dstep D x.1 x.2) D).length ≤ D.length + s.length ∧ sumE (s.foldl (fun D x => dstep D x.1 x.2) D) = sumE D + s.length ∧ sumB (s.foldl (fun D x => dstep D x.1 x.2) D) = sumB D + (s.map fun x => x.2.size).sum := by
  intro s
  induction s with
  | nil => intro D; exact ⟨Nat.le_refl _, rfl, rfl⟩
  | cons x s ih =>
   intro D
   obtain ⟨h1, h2, h3⟩ := ih (dstep D x.1 x.2)
   obtain ⟨g1, g2, g3⟩ := dstep_sum D x.1 x.2
   rw [List.foldl_cons, List.length_cons, List.map_cons, List.sum_cons]
   omega
 have := key s []
 unfold sdump
 refine ⟨by simpa using this.1, by rw [this.2.1]; simp [sumE], by rw [this.2.2]; simp [sumB]⟩
theorem dumpOf_state {s : Sta} (hs : SRise s) {g : Key → Nm} (hg : ∀ x ∈ s, g x.1 = x.2) : dumpOf g (s.map (·.1)) = sdump s := by
 unfold dumpOf sdump
 rw [List.foldl_map]
 have key : ∀ (l : Sta) (D : List Arc), (∀ x ∈ l, g x.1 = x.2) → l.foldl (fun D x => dstep D x.1 (g x.1)) D = l.foldl (fun D x => dstep D x.1 x.2) D := by
  intro l
  induction l with
  | nil => exact fun _ _ => rfl
  | cons x l ih =>
   intro D h
   rw [List.foldl_cons, List.foldl_cons, h x (List.mem_cons_self ..)]
   exact ih _ fun y hy => h y (List.mem_cons_of_mem _ hy)
 exact key s [] hg
theorem state_sta (ai : AI A) : A.state = A.sta (A.sts.length - 1) := by
 unfold AM.state AM.sta; rw [List.getLast?_eq_getElem?]
theorem now_get (lk : LinkM A M) (k : Key) : M.cs.get k M.cs.now = ofO (mget A.state k) := by
 obtain ⟨j, h1, h2, h3, h4, h5⟩ := lk.st
 have hpos : 0 < A.sts.length := List.length_pos_iff.2 lk.ai.ne
 have hlen := lk.ai.len
 have := h3 (A.sts.length - 1) (by omega) (by omega) k
 rw [← state_sta lk.ai] at this
 rw [lk.now, show A.now + 1 = A.first + (A.sts.length - 1) + 1 by unfold AM.now; omega]
 exact this
theorem now_keys (lk : LinkM A M) {ks : List Key} (h : KeysOf (fun k => (M.cs.get k M.cs.now).2) ks) : ks = A.state.map (·.1) := by
 refine h.uniq ⟨?_, fun k => ?_⟩
 ·unfold KRise; rw [List.pairwise_map]; exact lk.ai.state
 ·rw [now_get lk]
  constructor
  ·intro hm
   obtain ⟨x, hx, rfl⟩ := List.mem_map.1 hm
   rw [y105 lk.ai.state.nodup hx]; rfl
  ·intro hm
   cases e : mget A.state k with
   | none => rw [e] at hm; cases hm
   | some d => exact List.mem_map.2 ⟨_, y87 e, rfl⟩
theorem state_le (lk : LinkM A M) (hb : Bd A) : A.state.length ≤ 2 ^ 30 := by
 have h1 : (A.state.map (·.1)).length ≤ M.cs.total := by
  have hk : ∀ k ∈ A.state.map (·.1), k ∈ M.cs.ch.map (·.1) := fun k hk => by
   obtain ⟨x, hx, rfl⟩ := List.mem_map.1 hk
   refine get_mem (t := M.cs.now) ?_
   rw [now_get lk, y105 lk.ai.state.nodup hx]; rfl
  have := y144 lk.ai.state.nodup hk
  have h2 := total_ge lk.ci
  simp only [List.length_map] at this ⊢
  omega
 have := lk.tot
 have := hb.tot
 simp only [List.length_map] at h1
 omega
theorem DumpR_hs {a : OA} {n c r : Nat} {l : Int} (lk : LinkM A M) (hb : Bd A) (H : Hs h (pt q y24 [ptrV M.s, .slice a n c, .map (some r), .int .i64 l] :: storeA M.s M.cs :: L))
  (kk : ∀ h' b d, Hs h' (arcsA b d (sdump A.state) :: pt q y24 [ptrV M.s, .slice a n c, .map (some r), .int .i64 l] :: storeA M.s M.cs :: L) → Q (.slice b (sdump A.state).length d) h') : SpecH PP z399 [.pointer (some ⟨q, 0, none⟩)] h Q := by
 have htot : M.cs.total < 2 ^ 39 := by have := lk.tot; have := hb.tot; omega
 have cs := H.cell (off := 0) rfl
 have fin : SpecH PP z211 [.pointer (some ⟨M.s, 0, none⟩), .int .i64 M.cs.now] h (fun v h' => ∃ (t14 : OA) (t14n t14c : Nat), v = (.slice t14 t14n t14c) ∧ Q (.slice t14 t14n t14c) h') := by
  refine Dump_hs lk.ci htot H.m1 fun h' b d ks hks _ H' => ⟨_, _, _, rfl, ?_⟩
  have e1 := now_keys lk hks
  have e2 : dumpOf (fun k => (M.cs.get k M.cs.now).1) ks = sdump A.state := by
   rw [e1]
   refine dumpOf_state lk.ai.state fun x hx => ?_
   rw [now_get lk, y105 lk.ai.state.nodup hx]; rfl
  rw [e2] at H' ⊢
  exact kk h' b d (H'.sel 3 [0, 2, 1])
 refine z398.door (y13 rfl ⟨_, cs, ?_⟩)
 repeat' first
  | exact trivial
  | refine And.intro ?_ ?_
  | refine ⟨_, cs, ?_⟩
  | refine Now_hs H.m1 ⟨_, rfl, ?_⟩
  | exact fin
end Go.Proofs.YtglcanljknjcfaaGreatDoor

set_option maxRecDepth 20000
namespace Go.Proofs.YtglcanljknjcfaaGreatDoor
open Go Go.HW
variable {h : Heap} {L : List Assn} {Q : Value → Heap → Prop} {q : Nat} {A : AM} {M : MM} {t t' : ATx} {o o' : OT}
def use1 (tn : Nm) (u : Nat × Nat) (x : Arc) : Nat × Nat := if x.t = tn then (u.1 + esz x.es, u.2 + x.es.length) else u
theorem use_le (tn : Nm) : ∀ (D : List Arc) (u : Nat × Nat), (D.foldl (use1 tn) u).1 ≤ u.1 + sumB D ∧ (D.foldl (use1 tn) u).2 ≤ u.2 + sumE D
 | [], u => by simp [sumB, sumE]
 | x :: D, u => by
  obtain ⟨h1, h2⟩ := use_le tn D (use1 tn u x)
  have e1 : sumB (x :: D) = esz x.es + sumB D := by unfold sumB; rw [List.map_cons, List.sum_cons]
  have e2 : sumE (x :: D) = x.es.length + sumE D := by unfold sumE; rw [List.map_cons, List.sum_cons]
  have g : (use1 tn u x).1 ≤ u.1 + esz x.es ∧ (use1 tn u x).2 ≤ u.2 + x.es.length := by
   unfold use1; split
   ·exact ⟨Nat.le_refl _, Nat.le_refl _⟩
   ·exact ⟨Nat.le_add_right _ _, Nat.le_add_right _ _⟩
  rw [List.foldl_cons]
  omega
theorem sumB_take (D : List Arc) (i : Nat) : sumB (D.take i) ≤ sumB D ∧ sumE (D.take i) ≤ sumE D := by
 have h1 : sumB D = sumB (D.take i) + sumB (D.drop i) := by unfold sumB; rw [← List.sum_append, ← List.map_append, List.take_append_drop]
 have h2 : sumE D = sumE (D.take i) + sumE (D.drop i) := by unfold sumE; rw [← List.sum_append, ← List.map_append, List.take_append_drop]
 omega
theorem dat_state (ai : AI A) : ∀ x ∈ A.state, x.2.size ≤ 8192 := by
 unfold AM.state
 cases e : A.sts.getLast? with
 | none => exact nofun
 | some s => exact ai.dat s (List.mem_of_getLast? e)
theorem sumB_state (lk : LinkM A M) (hb : Bd A) : sumB (sdump A.state) ≤ 2 ^ 44 ∧ sumE (sdump A.state) ≤ 2 ^ 30 := by
 obtain ⟨h1, h2, h3⟩ := sdump_sum A.state
 have hl := state_le lk hb
 have key : ∀ s : Sta, (∀ x ∈ s, x.2.size ≤ 8192) → (s.map fun x => x.2.size).sum ≤ s.length * 8192 := by
  intro s
  induction s with
  | nil => intro _; simp
  | cons x s ih =>
   intro hx
   have g1 := hx x (List.mem_cons_self ..)
   have g2 := ih fun y hy => hx y (List.mem_cons_of_mem _ hy)
   rw [List.map_cons, List.sum_cons, List.length_cons, Nat.add_mul, Nat.one_mul]; omega
 have := key A.state (dat_state lk.ai)
 have h4 : A.state.length * 8192 ≤ 2 ^ 30 * 8192 := Nat.mul_le_mul_right _ hl
 omega
theorem MUse_hs {tn : Nm} (hb : Bd A) (H : Hs h (manA q A :: L)) (kk : ∀ h', Hs h' (manA q A :: L) → Q (.agg #[.int .i64 ((suse A.state tn).1 : Nat), .int .i64 ((suse A.state tn).2 : Nat)]) h') : SpecH PP z413 [.pointer (some ⟨q, 0, none⟩), .string tn] h Q := by
 obtain ⟨M, lk, H0⟩ := y68.1 H
 obtain ⟨sB, sE⟩ := sumB_state lk hb
 refine z412.door ?_
 dsimp only
 have H1 := H0.new (t := y172) (cs := #[.int .i64 0, .int .i64 0]) (xs := [.int .i64 0, .int .i64 0])
 generalize Array.size h = t4 at H1 ⊢
 generalize Array.push h _ = h1 at H1 ⊢
 have H2 := H1.new (t := y172) (cs := #[.int .i64 0, .int .i64 0]) (xs := [.int .i64 0, .int .i64 0])
 generalize Array.size h1 = u5 at H2 ⊢
 generalize Array.push h1 _ = h2 at H2 ⊢
 refine DumpR_hs lk hb (H2.sel 4 [2, 3, 0, 1]) fun h3 b d H3 => ⟨_, _, _, rfl, ?_⟩
 obtain ⟨P, hP, H4⟩ := y176.1 H3
 have hPl : P.length = (sdump A.state).length := by rw [← hP, List.length_map]
 have esu : suse A.state tn = (P.map PArc.arc).foldl (use1 tn) (0, 0) := by rw [hP]; rfl
 rw [esu] at kk
 rw [← hP] at sB sE
 rw [← hPl]
 have hlen : P.length ≤ 2 ^ 30 := by rw [hPl]; exact Nat.le_trans (sdump_sum _).1 (state_le lk hb)
 have go : ∀ (r i : Nat) {h : Heap}, i + r = P.length → Hs h (own b P.length d y49 3 (P.flatMap arcV) :: Sp (P.map entA) :: pt u5 y172 [.int .i64 ((((P.map PArc.arc).take i).foldl (use1 tn) (0, 0)).1 : Nat), .int .i64 ((((P.map PArc.arc).take i).foldl (use1 tn) (0, 0)).2 : Nat)] :: pt t4 y172 [.int .i64 0, .int .i64 0] :: pt q y24 (mgV M) :: storeA M.s M.cs :: cmsA M :: Sp (M.cms.map cmoA) :: mp intK otV M.r M.l :: fam opA M.l :: L) →
   z412.L1 tn ⟨t4, 0, none⟩ ⟨u5, 0, none⟩ b P.length d (P.length : Nat) (i : Nat) (z412.K1 Q) h := by
  intro r
  induction r with
  | zero =>
   intro i h hi H
   have : i = P.length := by omega
   subst this
   rw [List.take_of_length_le (by simp)] at H
   refine z412.L1_of (y13 (by simp) (z412.L1_X0 ⟨_, _, (H.sel 3 [2, 0, 1]).rdc0, ?_⟩))
   refine (H.sel 4 [3, 0, 1, 2]).wrs fun h5 H5 => ⟨_, _, H5.rdc0, ?_⟩
   exact kk h5 (y68.2 ⟨M, lk, H5.sel 4 []⟩)
  | succ r ih =>
   intro i h hi H
   have hl : i < P.length := by omega
   have ew : IntKind.i64.wrap (((i : Nat) : Int) + 1) = ((i + 1 : Nat) : Int) := by rw [y34 (by omega) (by omega)]; omega
   have etk : ((P.map PArc.arc).take (i + 1)).foldl (use1 tn) (0, 0) = use1 tn (((P.map PArc.arc).take i).foldl (use1 tn) (0, 0)) (P[i]).arc := by
    rw [List.take_succ_eq_append_getElem (by simpa using hl), List.foldl_append, List.getElem_map]; rfl
   have hle := use_le tn ((P.map PArc.arc).take (i + 1)) (0, 0)
   have hle2 := sumB_take (P.map PArc.arc) (i + 1)
   have hle0 := use_le tn ((P.map PArc.arc).take i) (0, 0)
   have hle3 := sumB_take (P.map PArc.arc) i
   rw [etk] at hle
   generalize hu : ((P.map PArc.arc).take i).foldl (use1 tn) (0, 0) = u at *
   refine z412.L1_of (y22 (by simp; omega) ?_)
   refine idxf y118 (φ := arcV) (x := P[i]) H.rd y177 (by decide) (by omega) (by omega) (by rw [Int.toNat_natCast, List.getElem?_eq_getElem hl]) fun t1 hr => ⟨_, _, _, _, _, hr, ?_⟩
   dsimp only
   have H5 := H.new (t := y49) (cs := #[.string ⟨#[]⟩, .string ⟨#[]⟩, .slice none 0 0]) (xs := [.string ⟨#[]⟩, .string ⟨#[]⟩, .slice none 0 0])
   generalize Array.size h = a7 at H5 ⊢
   generalize Array.push h _ = h5 at H5 ⊢
   refine H5.wrs (vs := arcV P[i]) (hv := by intro v hv; simp [arcV] at hv; rcases hv with rfl | rfl | rfl <;> rfl) fun h6 H6 => ⟨_, H6.cell (off := 0) rfl, (y16 _ _ _).2 ⟨fun e => ?_, fun e => ?_⟩⟩
   ·have e := of_decide_eq_true e
    have eu : use1 tn u (P[i]).arc = (u.1 + esz (P[i]).es, u.2 + (P[i]).es.length) := if_pos e
    rw [eu] at hle etk
    refine ⟨_, (H6.sel 4 [3, 0, 1, 2]).cell (off := 1) rfl, _, _, _, H6.cell (off := 2) rfl, ?_⟩
    have ew2 : IntKind.i64.wrap (((u.2 : Nat) : Int) + (((P[i]).es.length : Nat) : Int)) = ((u.2 + (P[i]).es.length : Nat) : Int) := by rw [y34 (by omega) (by omega)]; omega
    rw [ew2]
    refine (H6.sel 4 [3, 0, 1, 2]).sto (off := 1) (by simp) fun h7 H7 => ⟨_, _, _, H7.m1.cell (off := 2) rfl, ?_⟩
    have H8 := (H7.sel 4 [3, 0, 1, 2]).focus (A := entA P[i]) (i := i) (by rw [List.getElem?_map, List.getElem?_eq_getElem hl]; rfl)
    have in2 : ∀ (r2 j : Nat) {h : Heap}, j + r2 = (P[i]).es.length → Hs h (entA P[i] :: Sp ((P.map entA).eraseIdx i) :: pt u5 y172 [.int .i64 ((u.1 + esz ((P[i]).es.take j) : Nat) : Int), .int .i64 ((u.2 + (P[i]).es.length : Nat) : Int)] :: pt a7 y49 (arcV P[i]) :: own b P.length d y49 3 (P.flatMap arcV) :: pt t4 y172 [.int .i64 0, .int .i64 0] :: pt q y24 (mgV M) :: storeA M.s M.cs :: cmsA M :: Sp (M.cms.map cmoA) :: mp intK otV M.r M.l :: fam opA M.l :: L) →
      z412.L2 tn ⟨t4, 0, none⟩ ⟨u5, 0, none⟩ b P.length d (P.length : Nat) (i : Nat) (P[i]).a (P[i]).es.length (P[i]).c ((P[i]).es.length : Nat) (j : Nat) (z412.K2 (z412.K1 Q)) h := by
     intro r2
     induction r2 with
     | zero =>
      intro j h hj H
      have : j = (P[i]).es.length := by omega
      subst this
      rw [List.take_length] at H
      refine z412.L2_of (y13 (by simp) (z412.L2_X2 (z412.J1_of ?_)))
      dsimp only
      rw [ew]
      have H9 := H.unfocus (by simpa using hl)
      have es : (P.map entA).set i (entA P[i]) = P.map entA := by
       refine List.ext_getElem? fun k => ?_
       by_cases hk : i = k
       ·subst hk; rw [List.getElem?_set_self (by simpa using hl), List.getElem?_map, List.getElem?_eq_getElem hl]; rfl
       ·rw [List.getElem?_set_ne hk]
      rw [es] at H9
      refine ih (i + 1) (by omega) ?_
      rw [etk]
      exact H9.sel 5 [3, 0, 1, 4]
     | succ r2 ih2 =>
      intro j h hj H
      have hjl : j < (P[i]).es.length := by omega
      have esb : esz ((P[i]).es.take (j + 1)) = esz ((P[i]).es.take j) + ((P[i]).es[j]).d.size := by
       unfold esz; rw [List.take_succ_eq_append_getElem hjl, List.map_append, List.sum_append]; simp
      have esl : esz (P[i]).es = esz ((P[i]).es.take (j + 1)) + esz ((P[i]).es.drop (j + 1)) := by
       unfold esz; rw [← List.sum_append, ← List.map_append, List.take_append_drop]
      have ew3 : IntKind.i64.wrap (((j : Nat) : Int) + 1) = ((j + 1 : Nat) : Int) := by
       have hel : (P[i]).es.length ≤ sumE (P.map PArc.arc) := by
        unfold sumE
        exact y163 (List.mem_map.2 ⟨(P[i]).arc, List.mem_map_of_mem (List.getElem_mem hl), rfl⟩)
       rw [y34 (by omega) (by omega)]; omega
      have hrd : Rd h (P[i]).a ((P[i]).es.flatMap entV) := Hs.rd (L := Sp ((P.map entA).eraseIdx i) :: _) H
      refine z412.L2_of (y22 (by simp; omega) ?_)
      refine idxf y192 (φ := entV) (x := (P[i]).es[j]) hrd entV_len (by decide) (by omega) (by omega) (by rw [Int.toNat_natCast, List.getElem?_eq_getElem hjl]) fun t1 hr => ⟨_, _, hr, ?_⟩
      dsimp only
      have G1 := H.new (t := y143) (cs := #[.string ⟨#[]⟩, .string ⟨#[]⟩]) (xs := [.string ⟨#[]⟩, .string ⟨#[]⟩])
      generalize Array.size h = x9 at G1 ⊢
      generalize Array.push h _ = g1 at G1 ⊢
      refine G1.wrs (vs := entV (P[i]).es[j]) (hv := entV_one _) fun g2 G2 => ⟨_, (G2.sel 4 [3, 0, 1, 2]).cell (off := 0) rfl, _, G2.cell (off := 1) rfl, ?_⟩
      have ew4 : IntKind.i64.wrap (((u.1 + esz ((P[i]).es.take j) : Nat) : Int) + ((((P[i]).es[j]).d.size : Nat) : Int)) = ((u.1 + esz ((P[i]).es.take (j + 1)) : Nat) : Int) := by
       rw [y34 (by omega) (by omega)]; omega
      rw [ew4]
      refine (G2.sel 4 [3, 0, 1, 2]).sto (off := 0) (by simp) fun g3 G3 => ?_
      rw [ew3]
      exact ih2 (j + 1) (by omega) (G3.sel 4 [2, 3, 0])
    exact in2 (P[i]).es.length 0 (by omega) (H8.sel 5 [0, 1, 2, 3, 4])
   ·have e := of_decide_eq_false e
    have eu : use1 tn u (P[i]).arc = u := if_neg e
    rw [eu] at etk
    refine z412.J1_of ?_
    dsimp only
    rw [ew]
    refine ih (i + 1) (by omega) ?_
    rw [etk]
    exact H6.tl
 exact go P.length 0 (by omega) (H4.sel 6 [0, 1, 4, 5, 2, 3])
end Go.Proofs.YtglcanljknjcfaaGreatDoor

set_option maxRecDepth 20000
namespace Go.Proofs.YtglcanljknjcfaaGreatDoor
open Go Go.HW
variable {h : Heap} {L : List Assn} {Q : Value → Heap → Prop} {q : Nat} {A : AM} {M : MM} {t t' : ATx} {o o' : OT}
def Bm (m : List (Nm × Int)) (k : Nat) : Prop := ∀ x ∈ m, -(k : Int) ≤ x.2 ∧ x.2 ≤ 1073741824 + (k : Int)
theorem Bm.set {m : List (Nm × Int)} {k k' : Nat} (h : Bm m k) (hk : k ≤ k') {n : Nm} {v : Int} (h1 : -(k' : Int) ≤ v) (h2 : v ≤ 1073741824 + (k' : Int)) : Bm (mset m n v) k' := fun x hx => by
 rcases mem_mset hx with rfl | q
 ·exact ⟨h1, h2⟩
 ·have := h x q; omega
theorem Bm.get {m : List (Nm × Int)} {k : Nat} (h : Bm m k) (n : Nm) : -(k : Int) ≤ (mget m n).getD 0 ∧ (mget m n).getD 0 ≤ 1073741824 + (k : Int) := by
 cases e : mget m n with
 | none => show -(k : Int) ≤ 0 ∧ (0 : Int) ≤ _; omega
 | some v => exact h _ (y87 e)
theorem zInt : (PP.info? y63).bind (·.zero) = some (.int .i64 0) := by kernel_rfl
theorem fitsM_perm {m m' : List (Nm × Int)} (p : m.Perm m') : fitsM m = fitsM m' := by
 unfold fitsM
 rw [(p.filter _).length_eq]
 congr 1
 rw [Bool.eq_iff_iff, List.all_eq_true, List.all_eq_true]
 exact ⟨fun h x hx => h x (p.mem_iff.2 hx), fun h x hx => h x (p.mem_iff.1 hx)⟩
theorem mset_len {α β : Type} [DecidableEq α] (l : List (α × β)) (k : α) (v : β) : (mset l k v).length ≤ l.length + 1 := by
 have := congrArg List.length (keys_mset l k v)
 rw [List.length_map] at this
 split at this
 ·rw [List.length_map] at this; omega
 ·rw [List.length_append, List.length_map, List.length_singleton] at this; omega
theorem many0_len (tn : Nm) : ∀ (D : List Arc) (m : List (Nm × Int)), (many0 tn D m).length ≤ m.length + D.length
 | [], m => Nat.le_refl _
 | x :: D, m => by
  have := many0_len tn D (if x.t = tn then mset m x.n ((x.es.length : Nat) : Int) else m)
  have h2 : (if x.t = tn then mset m x.n ((x.es.length : Nat) : Int) else m).length ≤ m.length + 1 := by
   split
   ·exact mset_len _ _ _
   ·omega
  have e : many0 tn (x :: D) m = many0 tn D (if x.t = tn then mset m x.n ((x.es.length : Nat) : Int) else m) := rfl
  rw [List.length_cons, e]
  omega
theorem many1_len (s : Sta) : ∀ (ws : List Wr) (m : List (Nm × Int)), (ws.foldl (many1 s) m).length ≤ m.length + ws.length
 | [], m => Nat.le_refl _
 | w :: ws, m => by
  have := many1_len s ws (many1 s m w)
  have h2 : (many1 s m w).length ≤ m.length + 1 := by
   unfold many1
   split <;> split
   ·omega
   ·exact mset_len _ _ _
   ·exact mset_len _ _ _
   ·omega
  rw [List.length_cons, List.foldl_cons]; omega
theorem Fits_hs {tn : Nm} {ws : List Wr} {a : OA} {n c : Nat} (lk : LinkM A M) (hb : Bd A) (g : Gv L a (ws.flatMap wrV)) (hn : ws.length = n) (hn2 : n ≤ 2 ^ 20) (H : Hs h (pt q y24 (mgV M) :: storeA M.s M.cs :: L))
  (kk : ∀ h', Hs h' (pt q y24 (mgV M) :: storeA M.s M.cs :: L) → Q (.bool (fitsB A.state tn ws)) h') : SpecH PP z423 [.pointer (some ⟨q, 0, none⟩), .string tn, .slice a n c] h Q := by
 obtain ⟨sB, sE⟩ := sumB_state lk hb
 have htot : M.cs.total < 2 ^ 40 := by have := lk.tot; have := hb.tot; omega
 have hnow : A.now < 2 ^ 40 := by have := hb.first; have := hb.sts; unfold AM.now; omega
 refine z422.door ?_
 dsimp only
 have H1 := H.mp_new (κ := Value.string) (ν := intK) (α := Nm) (β := Int)
 generalize Array.size h = r at H1 ⊢
 generalize Array.push h _ = h1 at H1 ⊢
 refine DumpR_hs lk hb (H1.sel 3 [1, 2, 0]) fun h3 b d H3 => ⟨_, _, _, rfl, ?_⟩
 obtain ⟨P, hP, H4⟩ := y176.1 H3
 have hPl : P.length = (sdump A.state).length := by rw [← hP, List.length_map]
 rw [← hP] at sB sE
 rw [← hPl]
 have hlen : P.length ≤ 2 ^ 30 := by rw [hPl]; exact Nat.le_trans (sdump_sum _).1 (state_le lk hb)
 have rest : ∀ {h : Heap}, Bm (many0 tn (P.map PArc.arc) []) 0 → Hs h (mp Value.string intK r (many0 tn (P.map PArc.arc) []) :: pt q y24 (mgV M) :: storeA M.s M.cs :: L) → (z422.K1 Q) (.exit 0) (z422.X0 (some ⟨q, 0, none⟩) a n c (some r)) h := by
  intro h hm0 H
  refine z422.L1_X0 ?_
  have go2 : ∀ (r2 i : Nat) {h : Heap}, i + r2 = n → Bm ((ws.take i).foldl (many1 A.state) (many0 tn (P.map PArc.arc) [])) i → Hs h (mp Value.string intK r ((ws.take i).foldl (many1 A.state) (many0 tn (P.map PArc.arc) [])) :: pt q y24 (mgV M) :: storeA M.s M.cs :: L) →
    z422.L2 (some ⟨q, 0, none⟩) (some r) a n c (n : Nat) (i : Nat) (z422.K2 Q) h := by
   intro r2
   induction r2 with
   | zero =>
    intro i h hi hbm H
    have : i = n := by omega
    subst this
    rw [List.take_of_length_le (by omega)] at H hbm
    refine z422.L2_of (y13 (by simp) (z422.L2_X2 ?_))
    have efit : fitsB A.state tn ws = fitsM (ws.foldl (many1 A.state) (many0 tn (P.map PArc.arc) [])) := by unfold fitsB; rw [hP]
    rw [efit] at kk
    have hml : (ws.foldl (many1 A.state) (many0 tn (P.map PArc.arc) [])).length ≤ 2 ^ 40 := by
     have g1 := many1_len A.state ws (many0 tn (P.map PArc.arc) [])
     have g2 := many0_len tn (P.map PArc.arc) []
     rw [List.length_map] at g2
     simp only [List.length_nil] at g2
     omega
    generalize ws.foldl (many1 A.state) (many0 tn (P.map PArc.arc) []) = m at *
    refine H.range y132 fun h5 it H5 => ⟨_, rfl, ?_⟩
    have go3 : ∀ (k : Nat) {h : Heap} {done todo : List (Nm × Int)}, todo.length ≤ k → (done.all fun x => decide (x.2 ≤ 64)) = true → done.length + todo.length = m.length → Hs h (rgn Value.string intK r it m done todo :: pt q y24 (mgV M) :: storeA M.s M.cs :: L) →
      z422.L3 (((done.filter fun x => decide (0 < x.2)).length : Nat) : Int) (.pointer (some ⟨it, 0, none⟩)) (z422.K5 Q) h := by
     have fin : ∀ {h : Heap} {done todo : List (Nm × Int)}, todo = [] → (done.all fun x => decide (x.2 ≤ 64)) = true → Hs h (rgn Value.string intK r it m done todo :: pt q y24 (mgV M) :: storeA M.s M.cs :: L) →
       (z422.K5 Q) (.exit 5) (z422.X5 (((done.filter fun x => decide (0 < x.2)).length : Nat) : Int)) h := by
      intro h done todo e hall H
      have hp := H.rgn_perm
      rw [e, List.append_nil] at hp
      refine z422.L3_X5 ?_
      have := kk h H.rgn_end.tl |> fun _ => kk h (by simpa using H.tl)
      rw [← fitsM_perm hp] at this
      unfold fitsM at this
      rw [hall, Bool.true_and] at this
      rw [show decide ((((done.filter fun x => decide (0 < x.2)).length : Nat) : Int) ≤ 16) = decide ((done.filter fun x => decide (0 < x.2)).length ≤ 16) from decide_eq_decide.2 (by omega)]
      exact this
     intro k
     induction k with
     | zero =>
      intro h done todo hk hall hl H
      exact z422.L3_of (H.next (fun e => ⟨false, [], rfl, y13 rfl (fin e hall H)⟩) (fun h' x todo' p _ => by have := p.length_eq; simp at this; omega))
     | succ k ih3 =>
      intro h done todo hk hall hl H
      refine z422.L3_of (H.next (fun e => ⟨false, [], rfl, y13 rfl (fin e hall H)⟩) (fun h' x todo' p H2 => ⟨true, [.string x.1, intK x.2], rfl, y22 rfl ?_⟩))
      have hpl := p.length_eq
      rw [List.length_cons] at hpl
      refine H2.entry ⟨_, _, rfl, x.2, rfl, (y16 _ _ _).2 ⟨fun e => z422.L3_Xret ?_, fun e => ?_⟩⟩
      ·have e := of_decide_eq_true e
       have hp := H2.rgn_perm
       have := kk h' H2.tl
       rw [← fitsM_perm hp] at this
       have ef : fitsM (done ++ [x] ++ todo') = false := by
        unfold fitsM
        have : (done ++ [x] ++ todo').all (fun x => decide (x.2 ≤ 64)) = false := by
         rw [← Bool.not_eq_true, List.all_eq_true]
         intro hh
         have := hh x (by simp)
         simp at this; omega
        rw [this]; rfl
       rw [ef] at this; exact this
      ·have e := of_decide_eq_false e
       have hall2 : ((done ++ [x]).all fun x => decide (x.2 ≤ 64)) = true := by rw [List.all_append, hall]; simp; omega
       have hl2 : (done ++ [x]).length + todo'.length = m.length := by rw [List.length_append, List.length_singleton]; omega
       have hdl : (done.filter fun x => decide (0 < x.2)).length ≤ done.length := List.length_filter_le _ _
       refine (y16 _ _ _).2 ⟨fun e2 => ?_, fun e2 => ?_⟩
       ·have e2 := of_decide_eq_true e2
        have ew : IntKind.i64.wrap ((((done.filter fun x => decide (0 < x.2)).length : Nat) : Int) + 1) = ((((done ++ [x]).filter fun x => decide (0 < x.2)).length : Nat) : Int) := by
         rw [List.filter_append, List.length_append, List.filter_cons_of_pos (by simpa using e2), y34 (by omega) (by omega)]; simp
        dsimp only
        rw [ew]
        exact ih3 (by omega) hall2 hl2 H2
       ·have e2 := of_decide_eq_false e2
        have ew : (((done.filter fun x => decide (0 < x.2)).length : Nat) : Int) = ((((done ++ [x]).filter fun x => decide (0 < x.2)).length : Nat) : Int) := by
         rw [List.filter_append, List.length_append, List.filter_cons_of_neg (by simpa using e2)]; simp
        rw [ew]
        exact ih3 (by omega) hall2 hl2 H2
    exact go3 m.length (done := []) (todo := m) (Nat.le_refl _) rfl (by simp) H5
   | succ r2 ih =>
    intro i h hi hbm H
    have hl : i < ws.length := by omega
    have ew : IntKind.i64.wrap (((i : Nat) : Int) + 1) = ((i + 1 : Nat) : Int) := by rw [y34 (by omega) (by omega)]; omega
    have etk : (ws.take (i + 1)).foldl (many1 A.state) (many0 tn (P.map PArc.arc) []) = many1 A.state ((ws.take i).foldl (many1 A.state) (many0 tn (P.map PArc.arc) [])) ws[i] := by
     rw [List.take_succ_eq_append_getElem hl, List.foldl_append]; rfl
    generalize (ws.take i).foldl (many1 A.state) (many0 tn (P.map PArc.arc) []) = m at *
    have hg := hbm.get (ws[i]).k.a
    have j4 : ∀ {h : Heap} {m' : List (Nm × Int)}, m' = many1 A.state m ws[i] → Bm m' (i + 1) → Hs h (mp Value.string intK r m' :: pt q y24 (mgV M) :: storeA M.s M.cs :: L) → z422.J4 (some ⟨q, 0, none⟩) (some r) a n c (n : Nat) (i : Nat) (z422.K2 Q) h := by
     intro h m' e hbm' H'
     refine z422.J4_of ?_
     dsimp only
     rw [ew]
     refine ih (i + 1) (by omega) ?_ ?_
     ·rw [etk, ← e]; exact hbm'
     ·rw [etk, ← e]; exact H'
    refine z422.L2_of (y22 (by simp; omega) ?_)
    refine idxf y122 (φ := wrV) (x := ws[i]) (g _ H.tl.tl.tl) (fun _ => rfl) (by decide) (by omega) (by omega) (by rw [Int.toNat_natCast, List.getElem?_eq_getElem hl]) fun t1 hr => ⟨_, _, _, _, _, hr, ?_⟩
    have G1 := H.new (t := y25) (cs := #[.string ⟨#[]⟩, .string ⟨#[]⟩, .string ⟨#[]⟩, .bool false, .string ⟨#[]⟩]) (xs := wrV noW)
    dsimp only
    generalize Array.size h = w11 at G1 ⊢
    generalize Array.push h _ = g1 at G1 ⊢
    refine G1.wrs (vs := wrV ws[i]) (hv := wrV_one1 _) fun g2 G2 => ?_
    have cq := (G2.sel 3 [2, 0, 1]).cell (off := 0) rfl
    have ck : rdCells g2 ⟨w11, 0, none⟩ 0 (keyV (ws[i]).k) := G2.rdo 0
    have ew2 : IntKind.i64.wrap (((A.now : Nat) : Int) + 1) = M.cs.now := by rw [lk.now, y34 (by omega) (by omega)]; omega
    have fin : SpecH PP z215 [.pointer (some ⟨M.s, 0, none⟩), keyA (ws[i]).k, .int .i64 (IntKind.i64.wrap (((A.now : Nat) : Int) + 1))] g2 (fun v_1 h2 => ∃ (t52 : ByteArray) (t52_1 : Bool), v_1 = (.tuple #[(.string t52), (.bool t52_1)]) ∧ z422.J2 (some ⟨q, 0, none⟩) (some r) ⟨w11, 0, none⟩ t52_1 a n c (n : Nat) (i : Nat) (z422.K2 Q) h2) := by
     rw [ew2]
     refine Get_hs lk.ci htot (G2.sel 4 [3, 0, 1, 2]) fun h5 H5 => ⟨_, _, rfl, ?_⟩
     have eth : (M.cs.get (ws[i]).k M.cs.now).2 = (mget A.state (ws[i]).k).isSome := by
      rw [now_get lk]; cases mget A.state (ws[i]).k <;> rfl
     rw [eth]
     have H6 := H5.sel 4 [1, 2, 3, 0]
     refine z422.J2_of ⟨_, H6.cell (off := 3) rfl, ?_⟩
     cases e1 : (ws[i]).there with
     | true =>
      refine y22 rfl (z422.J3_of ?_)
      cases e2 : (mget A.state (ws[i]).k).isSome with
      | false =>
       refine y22 rfl ⟨_, H6.cell (off := 1) rfl, ?_⟩
       refine (H6.m1).lookup1 y132 (Keys.str y91) zInt (ws[i]).k.a ?_
       refine ⟨(mget m (ws[i]).k.a).getD 0, by cases mget m (ws[i]).k.a <;> rfl, ?_⟩
       have ew3 : IntKind.i64.wrap ((mget m (ws[i]).k.a).getD 0 + 1) = (mget m (ws[i]).k.a).getD 0 + 1 := y34 (by omega) (by omega)
       dsimp only
       rw [ew3]
       refine (H6.m1).mset (t := y90) y132 (Keys.str y91) (ws[i]).k.a ((mget m (ws[i]).k.a).getD 0 + 1) rfl fun h7 H7 => j4 ?_ (hbm.set (k' := i + 1) (by omega) (by omega) (by omega)) (H7.sel 2 [0])
       unfold many1; rw [e1, e2]; rfl
      | true =>
       refine y13 rfl ⟨_, H6.cell (off := 3) rfl, ?_⟩
       rw [e1]
       refine y13 rfl (z422.J5_of (y13 rfl (j4 ?_ (fun x hx => by have := hbm x hx; omega) (H6.sel 2 [1]))))
       unfold many1; rw [e1, e2]; rfl
     | false =>
      refine y13 rfl (z422.J3_of (y13 rfl ⟨_, H6.cell (off := 3) rfl, ?_⟩))
      rw [e1]
      refine y22 rfl (z422.J5_of ?_)
      cases e2 : (mget A.state (ws[i]).k).isSome with
      | true =>
       refine y22 rfl ⟨_, H6.cell (off := 1) rfl, ?_⟩
       refine (H6.m1).lookup1 y132 (Keys.str y91) zInt (ws[i]).k.a ?_
       refine ⟨(mget m (ws[i]).k.a).getD 0, by cases mget m (ws[i]).k.a <;> rfl, ?_⟩
       have ew3 : IntKind.i64.wrap ((mget m (ws[i]).k.a).getD 0 - 1) = (mget m (ws[i]).k.a).getD 0 - 1 := y34 (by omega) (by omega)
       dsimp only
       rw [ew3]
       refine (H6.m1).mset (t := y90) y132 (Keys.str y91) (ws[i]).k.a ((mget m (ws[i]).k.a).getD 0 - 1) rfl fun h7 H7 => j4 ?_ (hbm.set (k' := i + 1) (by omega) (by omega) (by omega)) (H7.sel 2 [0])
       unfold many1; rw [e1, e2]; rfl
      | false =>
       refine y13 rfl (j4 ?_ (fun x hx => by have := hbm x hx; omega) (H6.sel 2 [1]))
       unfold many1; rw [e1, e2]; rfl
    have GN := G2.sel 4 [2, 3, 0, 1]
    repeat' first
     | exact trivial
     | refine And.intro ?_ ?_
     | refine ⟨_, cq, ?_⟩
     | refine ⟨_, _, _, ck, ?_⟩
     | refine NowR_hs lk.now hnow GN ⟨_, rfl, ?_⟩
     | exact fin
  exact go2 n 0 (by omega) hm0 H
 have many_snoc : ∀ (D : List Arc) (x : Arc), many0 tn (D ++ [x]) [] = if x.t = tn then mset (many0 tn D []) x.n ((x.es.length : Nat) : Int) else many0 tn D [] := fun D x => by unfold many0; rw [List.foldl_append]; rfl
 have go : ∀ (r1 i : Nat) {h : Heap}, i + r1 = P.length → Bm (many0 tn ((P.map PArc.arc).take i) []) 0 → Hs h (own b P.length d y49 3 (P.flatMap arcV) :: mp Value.string intK r (many0 tn ((P.map PArc.arc).take i) []) :: pt q y24 (mgV M) :: storeA M.s M.cs :: L) →
   z422.L1 (some ⟨q, 0, none⟩) tn a n c (some r) b P.length d (P.length : Nat) (i : Nat) (z422.K1 Q) h := by
  intro r1
  induction r1 with
  | zero =>
   intro i h hi hbm H
   have : i = P.length := by omega
   subst this
   rw [List.take_of_length_le (by simp)] at H hbm
   exact z422.L1_of (y13 (by simp) (rest hbm H.tl))
  | succ r1 ih =>
   intro i h hi hbm H
   have hl : i < P.length := by omega
   have ew : IntKind.i64.wrap (((i : Nat) : Int) + 1) = ((i + 1 : Nat) : Int) := by rw [y34 (by omega) (by omega)]; omega
   have etk : many0 tn ((P.map PArc.arc).take (i + 1)) [] = if (P[i]).t = tn then mset (many0 tn ((P.map PArc.arc).take i) []) (P[i]).n (((P[i]).es.length : Nat) : Int) else many0 tn ((P.map PArc.arc).take i) [] := by
    rw [List.take_succ_eq_append_getElem (by simpa using hl), many_snoc, List.getElem_map]; rfl
   have hel : (P[i]).es.length ≤ 2 ^ 30 := by
    refine Nat.le_trans ?_ sE
    unfold sumE
    exact y163 (List.mem_map.2 ⟨(P[i]).arc, List.mem_map_of_mem (List.getElem_mem hl), rfl⟩)
   have nxt : ∀ {h : Heap} {m' : List (Nm × Int)}, m' = many0 tn ((P.map PArc.arc).take (i + 1)) [] → Bm m' 0 → Hs h (own b P.length d y49 3 (P.flatMap arcV) :: mp Value.string intK r m' :: pt q y24 (mgV M) :: storeA M.s M.cs :: L) → z422.J1 (some ⟨q, 0, none⟩) tn a n c (some r) b P.length d (P.length : Nat) (i : Nat) (z422.K1 Q) h := by
    intro h m' e hbm' H'
    refine z422.J1_of ?_
    dsimp only
    rw [ew]
    refine ih (i + 1) (by omega) (e ▸ hbm') (e ▸ H')
   refine z422.L1_of (y22 (by simp; omega) ?_)
   refine idxf y118 (φ := arcV) (x := P[i]) H.rd y177 (by decide) (by omega) (by omega) (by rw [Int.toNat_natCast, List.getElem?_eq_getElem hl]) fun t1 hr => ⟨_, _, _, _, _, hr, ?_⟩
   dsimp only
   have H5 := H.new (t := y49) (cs := #[.string ⟨#[]⟩, .string ⟨#[]⟩, .slice none 0 0]) (xs := [.string ⟨#[]⟩, .string ⟨#[]⟩, .slice none 0 0])
   generalize Array.size h = a9 at H5 ⊢
   generalize Array.push h _ = h5 at H5 ⊢
   refine H5.wrs (vs := arcV P[i]) (hv := by intro v hv; simp [arcV] at hv; rcases hv with rfl | rfl | rfl <;> rfl) fun h6 H6 => ⟨_, H6.cell (off := 0) rfl, (y16 _ _ _).2 ⟨fun e => ?_, fun e => ?_⟩⟩
   ·have e := of_decide_eq_true e
    refine ⟨_, H6.cell (off := 1) rfl, _, _, _, H6.cell (off := 2) rfl, ?_⟩
    refine (H6.sel 3 [2, 0, 1]).mset (t := y90) y132 (Keys.str y91) (P[i]).n (((P[i]).es.length : Nat) : Int) rfl fun h7 H7 => nxt ?_ (hbm.set (Nat.le_refl _) (by omega) (by omega)) (H7.sel 3 [2, 0])
    rw [etk, if_pos e]
   ·have e := of_decide_eq_false e
    refine nxt ?_ hbm H6.tl
    rw [etk, if_neg e]
 exact go P.length 0 (by omega) (fun x hx => absurd hx List.not_mem_nil) (H4.sel 5 [0, 4, 2, 3])
end Go.Proofs.YtglcanljknjcfaaGreatDoor

set_option maxRecDepth 20000
namespace Go.Proofs.YtglcanljknjcfaaGreatDoor
open Go Go.HW
variable {h : Heap} {L : List Assn} {Q : Value → Heap → Prop} {q : Nat} {A : AM} {M : MM} {t t' : ATx} {o o' : OT}
theorem conf_cms (lk : LinkM A M) (ht : t ∈ A.txs) (ol : OLink A.first t o) : (M.cms.any fun x => o.vs.clash x.cm) = A.conf t := by
 obtain ⟨j, h1, h2, h3, h4, h5⟩ := lk.st
 have hj := h5 t ht
 have e1 : (M.cms.any fun x => o.vs.clash x.cm) = (cmts A j).any fun y => decide (y.1 > o.vs.at_) && y.2.any fun w => t.meets w.k := by
  rw [← h4, List.any_map]
  refine congrArg (fun p => M.cms.any p) (funext fun x => ?_)
  show (decide (x.at_ > o.vs.at_) && x.ws.any fun w => o.vs.meets w.k) = _
  rw [show (fun w : Wr => o.vs.meets w.k) = fun w => t.meets w.k from funext fun w => ol.meets w.k]
  rfl
 rw [e1, ol.at_]
 unfold cmts AM.conf
 rw [Bool.eq_iff_iff, List.any_eq_true, List.any_eq_true]
 constructor
 ·rintro ⟨y, hy, hc⟩
  obtain ⟨i, hi, rfl⟩ := List.getElem_of_mem hy
  rw [List.length_mapIdx, List.length_drop] at hi
  rw [List.getElem_mapIdx, List.getElem_drop] at hc
  simp only [Bool.and_eq_true, decide_eq_true_eq] at hc
  have hs : t.snap ≤ j + i := by omega
  refine ⟨A.wrs[j + i], ?_, hc.2⟩
  have : A.wrs[j + i] = (A.wrs.drop t.snap)[j + i - t.snap]'(by rw [List.length_drop]; omega) := by
   rw [List.getElem_drop]; congr 1; omega
  rw [this]; exact List.getElem_mem _
 ·rintro ⟨ws, hw, hc⟩
  obtain ⟨i, hi, rfl⟩ := List.getElem_of_mem hw
  rw [List.length_drop] at hi
  rw [List.getElem_drop] at hc
  have hl : t.snap + i - j < ((A.wrs.drop j).mapIdx fun i ws => (((A.first + j + i + 1 : Nat) : Int), ws)).length := by rw [List.length_mapIdx, List.length_drop]; omega
  refine ⟨_, List.getElem_mem hl, ?_⟩
  rw [List.getElem_mapIdx, List.getElem_drop]
  simp only [Bool.and_eq_true, decide_eq_true_eq]
  refine ⟨by omega, ?_⟩
  have : j + (t.snap + i - j) = t.snap + i := by omega
  simp only [this]; exact hc
theorem cmok {i : Nat} (hi : i < M.cms.length) (N : List Assn) (hlt : (M.cms[i]).ws.length < 2 ^ 60) : CmOk (Sp (M.cms.map cmoA) :: N) (M.cms[i]).cm :=
 ⟨fun h H => (Hs.focus (A := cmoA M.cms[i]) (i := i) (by rw [List.getElem?_map, List.getElem?_eq_getElem hi]; rfl) H).rd, rfl, hlt⟩
theorem cms_len (lk : LinkM A M) {i : Nat} (hi : i < M.cms.length) : (M.cms[i]).ws.length ≤ (A.wrs.map (·.length)).sum := by
 obtain ⟨j, h1, h2, h3, h4, h5⟩ := lk.st
 have hm : ((M.cms[i]).at_, (M.cms[i]).ws) ∈ M.cms.map fun x => (x.at_, x.ws) := List.mem_map_of_mem (f := fun x : Cmo => (x.at_, x.ws)) (List.getElem_mem hi)
 rw [h4] at hm
 obtain ⟨k, hk, e⟩ := List.getElem_of_mem hm
 unfold cmts at hk e
 rw [List.length_mapIdx, List.length_drop] at hk
 rw [List.getElem_mapIdx, List.getElem_drop] at e
 have e := (Prod.mk.inj e).2
 rw [← e]
 exact y163 (List.mem_map_of_mem (f := fun l : List Wr => l.length) (List.getElem_mem _))
theorem cms_few (lk : LinkM A M) : M.cms.length ≤ A.wrs.length := by
 obtain ⟨j, h1, h2, h3, h4, h5⟩ := lk.st
 have := congrArg List.length h4
 unfold cmts at this
 rw [List.length_map, List.length_mapIdx, List.length_drop] at this
 omega
theorem MCheck_hs {n : Int} (hb : Bd A) (H : Hs h (manA q A :: L))
  (kk : ∀ h' a c, Hs h' (own a (A.check n).2.1.length c y25 5 ((A.check n).2.1.flatMap wrV) :: manA q A :: L) → Q (.tuple #[.agg #[.int .i64 ((A.check n).1 : Nat), .slice a (A.check n).2.1.length c], .int .i64 (A.check n).2.2]) h') :
  SpecH PP z393 [.pointer (some ⟨q, 0, none⟩), .int .i64 n] h Q := by
 obtain ⟨M, lk, H0⟩ := y68.1 H
 have hnow : A.now < 2 ^ 40 := by have := hb.first; have := hb.sts; unfold AM.now; omega
 have hwl : A.wrs.length ≤ 2 ^ 30 := by have := lk.ai.len; have := hb.sts; omega
 have hcl := cms_few lk
 refine z392.door ?_
 dsimp only
 have H1 := H0.new (t := y36) (cs := #[.int .i64 0, .slice none 0 0]) (xs := [.int .i64 0, .slice none 0 0])
 generalize Array.size h = t4 at H1 ⊢
 generalize Array.push h _ = h1 at H1 ⊢
 have none' : ∀ {h' : Heap} {e : Int} {xs : List Value}, xs.length = 2 → A.check n = (0, [], e) → Hs h' (pt t4 y36 xs :: pt q y24 (mgV M) :: storeA M.s M.cs :: cmsA M :: Sp (M.cms.map cmoA) :: mp intK otV M.r M.l :: fam opA M.l :: L) →
   wrCells ⟨t4, 0, none⟩ 0 [.int .i64 0, .slice none 0 0] (fun h2 => ∃ (f0 : Int) (f1 : OA) (f1n f1c : Nat), rdCells h2 ⟨t4, 0, none⟩ 0 [(.int .i64 f0), (.slice f1 f1n f1c)] ∧ Q (.tuple #[(.agg #[(.int .i64 f0), (.slice f1 f1n f1c)]), (.int .i64 e)]) h2) h' := by
  intro h' e xs hx ec H
  refine H.wrs (fun h2 H2 => ⟨_, _, _, _, H2.rdc0, ?_⟩) (by rw [hx]; rfl)
  have := kk h2 none 0
  rw [ec] at this
  exact this ((y68.2 ⟨M, lk, H2.tl⟩).own_nil y25 5)
 refine y13 rfl ⟨_, H1.m1.cell (off := 2) rfl, ?_⟩
 refine (H1.sel 6 [5, 0, 1, 2, 3, 4]).lookup2 y100 Ky_int zOp n ?_
 cases ef : A.find n with
 | none =>
  rw [lk.fnone ef]
  refine ⟨_, _, rfl, y22 rfl (none' rfl ?_ H1)⟩
  unfold AM.check; rw [ef]
 | some t =>
  obtain ⟨o, eo, ol⟩ := lk.fsome ef
  obtain ⟨ht, en0⟩ := y69 ef
  have hti := lk.ai.tx t ht
  subst en0
  rw [eo]
  have H2 := man_take lk eo (H1.sel 7 [6, 0, 1, 2, 3, 4, 5])
  have nd := lk.nd
  refine ⟨_, _, rfl, y13 rfl ⟨_, H2.cell (off := 1) rfl, ?_⟩⟩
  have hw20 := hb.tx t ht
  have hsl : o.vs.st.length = t.st.length := by have := ol.st.length_eq; simpa using this
  refine VWrites_hs ol.vi (by omega) (H2.sel 2 [1, 0]) fun h3 a c ws hp hr H3 => ⟨_, _, _, rfl, ?_⟩
  have ews : ws = t.st := by
   refine rise_uniq hr hti.rise (hp.trans ((ol.st.map (·.2)).trans ?_))
   rw [List.map_map]
   show (t.st.map fun w => w).Perm t.st
   rw [List.map_id']
  subst ews
  have back : ∀ {h' : Heap} {a : OA} {c : Nat} {xs : List Value}, Hs h' (own a t.st.length c y25 5 (t.st.flatMap wrV) :: setA o.s o.vs :: pt o.b y54 [.string o.tn, ptrV o.s] :: fam opA (HW.mdel M.l (t.n : Int)) :: pt t4 y36 xs :: pt q y24 (mgV M) :: storeA M.s M.cs :: cmsA M :: Sp (M.cms.map cmoA) :: mp intK otV M.r M.l :: L) →
    Hs h' (pt t4 y36 xs :: pt q y24 (mgV M) :: storeA M.s M.cs :: cmsA M :: Sp (M.cms.map cmoA) :: mp intK otV M.r M.l :: fam opA M.l :: L) := fun H => by
   have G := (y113.2 (H.sel 10 [2, 1, 3, 4, 5, 6, 7, 8, 9])).fam_back nd eo
   exact G.sel 7 [1, 2, 3, 4, 5, 6, 0]
  have ecs : t.st = [] → A.check (t.n : Int) = (0, [], 0) := fun e => by unfold AM.check; rw [ef]; exact if_pos e
  refine (y16 _ _ _).2 ⟨fun e => ?_, fun e => ?_⟩
  ·have e : t.st = [] := List.length_eq_zero_iff.1 (by simpa using e)
   exact none' rfl (ecs e) (back (H3.sel 4 [0, 1, 2, 3]))
  have hne : t.st ≠ [] := fun q => by rw [q] at e; cases e
  have H4 := H3.sel 4 [0, 1, 2, 3]
  refine ⟨_, _, _, (H4.sel 6 [5, 0, 1, 2, 3, 4]).cell (off := 1) rfl, ?_⟩
  have go : ∀ (r i : Nat) {h : Heap}, i + r = M.cms.length → ((M.cms.take i).any fun x => o.vs.clash x.cm) = false → Hs h (own a t.st.length c y25 5 (t.st.flatMap wrV) :: setA o.s o.vs :: pt o.b y54 [.string o.tn, ptrV o.s] :: fam opA (HW.mdel M.l (t.n : Int)) :: pt t4 y36 [.int .i64 0, .slice none 0 0] :: pt q y24 (mgV M) :: storeA M.s M.cs :: cmsA M :: Sp (M.cms.map cmoA) :: mp intK otV M.r M.l :: L) →
    z392.L1 (some ⟨q, 0, none⟩) ⟨t4, 0, none⟩ (some ⟨o.b, 0, none⟩) a t.st.length c M.ca M.cms.length M.cc (M.cms.length : Nat) (i : Nat) (z392.K1 Q) h := by
   intro r
   induction r with
   | zero =>
    intro i h hi hno H
    have : i = M.cms.length := by omega
    subst this
    rw [List.take_length, conf_cms lk ht ol] at hno
    refine z392.L1_of (y13 (by simp) (z392.L1_X0 ⟨_, (H.sel 3 [2, 0, 1]).cell (off := 0) rfl, ?_⟩))
    rw [ol.tn]
    refine Fits_hs (ws := t.st) (L := own a t.st.length c y25 5 (t.st.flatMap wrV) :: setA o.s o.vs :: pt o.b y54 [.string o.tn, ptrV o.s] :: fam opA (HW.mdel M.l (t.n : Int)) :: pt t4 y36 [.int .i64 0, .slice none 0 0] :: cmsA M :: Sp (M.cms.map cmoA) :: mp intK otV M.r M.l :: L) lk hb Gv.own rfl hw20 (H.sel 10 [5, 6, 0, 1, 2, 3, 4, 7, 8, 9]) fun h5 H5 => ⟨_, rfl, ?_⟩
    have H6 := H5.sel 10 [2, 3, 4, 5, 6, 0, 1, 7, 8, 9]
    have ec : A.check (t.n : Int) = if fitsB A.state t.tn t.st = false then (0, [], 145) else (A.now + 1, t.st, 0) := by
     unfold AM.check; rw [ef]; dsimp only; rw [if_neg hne, if_neg (by rw [hno]; simp)]
    refine (y16 _ _ _).2 ⟨fun e => ?_, fun e => ?_⟩
    ·have e : fitsB A.state t.tn t.st = false := by simpa using e
     rw [if_pos e] at ec
     exact none' rfl ec (back H6)
    ·have e : fitsB A.state t.tn t.st = true := by simpa using e
     rw [if_neg (by rw [e]; simp)] at ec
     refine NowR_hs lk.now hnow (H6.sel 7 [5, 6, 0, 1, 2, 3, 4]) ⟨_, rfl, ?_⟩
     have ew : IntKind.i64.wrap (((A.now : Nat) : Int) + 1) = ((A.now + 1 : Nat) : Int) := by rw [y34 (by omega) (by omega)]; omega
     dsimp only
     rw [ew]
     refine (H6.sel 5 [4, 0, 1, 2, 3]).wrs fun h7 H7 => ⟨_, _, _, _, H7.rdc0, ?_⟩
     have G := (y113.2 (H7.sel 10 [3, 2, 4, 1, 5, 6, 7, 8, 9])).fam_back nd eo
     have := kk h7 a c
     rw [ec] at this
     refine this ?_
     have G2 := G.sel 7 [2, 3, 4, 5, 6, 0, 1]
     exact ((y68 (A := A) (q := q)).2 ⟨M, lk, G2⟩).m1
   | succ r ih =>
    intro i h hi hno H
    have hl : i < M.cms.length := by omega
    have ew : IntKind.i64.wrap (((i : Nat) : Int) + 1) = ((i + 1 : Nat) : Int) := by rw [y34 (by omega) (by omega)]; omega
    have etk : ((M.cms.take (i + 1)).any fun x => o.vs.clash x.cm) = o.vs.clash (M.cms[i]).cm := by
     rw [List.take_succ_eq_append_getElem hl, List.any_append, hno]; simp
    have hwl2 : (M.cms[i]).ws.length < 2 ^ 60 := by have := cms_len lk hl; have := hb.tot; omega
    have hcs : o.vs.clash (M.cms[i]).cm = (decide ((M.cms[i]).at_ > o.vs.at_) && (M.cms[i]).ws.any fun w => o.vs.meets w.k) := rfl
    have j1 : ∀ {h : Heap} {b : Bool}, b = o.vs.clash (M.cms[i]).cm → Hs h (own a t.st.length c y25 5 (t.st.flatMap wrV) :: setA o.s o.vs :: pt o.b y54 [.string o.tn, ptrV o.s] :: fam opA (HW.mdel M.l (t.n : Int)) :: pt t4 y36 [.int .i64 0, .slice none 0 0] :: pt q y24 (mgV M) :: storeA M.s M.cs :: cmsA M :: Sp (M.cms.map cmoA) :: mp intK otV M.r M.l :: L) →
      z392.J1 (some ⟨q, 0, none⟩) ⟨t4, 0, none⟩ (some ⟨o.b, 0, none⟩) a t.st.length c M.ca M.cms.length M.cc (M.cms.length : Nat) (i : Nat) b (z392.K1 Q) h := by
     intro h b hbb H
     subst hbb
     refine z392.J1_of ((y16 _ _ _).2 ⟨fun e => ?_, fun e => ?_⟩)
     ·have hcf : A.conf t = true := by
       rw [← conf_cms lk ht ol, List.any_eq_true]
       exact ⟨_, List.getElem_mem hl, e⟩
      have ec : A.check (t.n : Int) = (0, [], 142) := by
       unfold AM.check; rw [ef]; dsimp only; rw [if_neg hne, if_pos hcf]
      refine (H.sel 5 [4, 0, 1, 2, 3]).wrs fun h2 H2 => z392.L1_Xret ⟨_, _, _, _, H2.rdc0, ?_⟩
      have := kk h2 none 0
      rw [ec] at this
      exact this ((y68.2 ⟨M, lk, (back (H2.sel 5 [1, 2, 3, 4, 0])).tl⟩).own_nil y25 5)
     ·dsimp only
      rw [ew]
      exact ih (i + 1) (by omega) (by rw [etk]; exact e) H
    refine z392.L1_of (y22 (by simp; omega) ?_)
    refine idxf y125 (φ := cmoV) (x := M.cms[i]) (H.sel 8 [7, 0, 1, 2, 3, 4, 5, 6]).rd cmoV_len (by decide) (by omega) (by omega) (by rw [Int.toNat_natCast, List.getElem?_eq_getElem hl]) fun t1 hr => ⟨_, _, _, _, hr, ?_⟩
    dsimp only
    have G1 := H.new (t := y36) (cs := #[.int .i64 0, .slice none 0 0]) (xs := [.int .i64 0, .slice none 0 0])
    generalize Array.size h = c10 at G1 ⊢
    generalize Array.push h _ = g1 at G1 ⊢
    refine G1.wrs (vs := cmoV M.cms[i]) (hv := cmoV_one _) fun g2 G2 => ?_
    have G3 := G2.sel 4 [3, 0, 1, 2]
    have c1 := G3.cell (off := 1) rfl
    have c2 := G2.cell (off := 0) rfl
    have GS := G2.sel 3 [2, 0, 1]
    refine ⟨_, c1, ?_⟩
    have fin : br (decide ((M.cms[i]).at_ > o.vs.at_)) (∃ (t56 : OA), cellH g2 (Addr.add ⟨o.b, 0, none⟩ 1) = some (.pointer t56) ∧
      ∃ (t57f0 : Int) (t57f1 : OA) (t57f1n t57f1c : Nat), rdCells g2 ⟨c10, 0, none⟩ 0 [(.int .i64 t57f0), (.slice t57f1 t57f1n t57f1c)] ∧
      SpecH PP z442 [(.pointer t56), (.agg #[(.int .i64 t57f0), (.slice t57f1 t57f1n t57f1c)])] g2 (fun v_2 h5 => ∃ (t58 : Bool), v_2 = (.bool t58) ∧
      z392.J1 (some ⟨q, 0, none⟩) ⟨t4, 0, none⟩ (some ⟨o.b, 0, none⟩) a t.st.length c M.ca M.cms.length M.cc (M.cms.length : Nat) (i : Nat) t58 (z392.K1 Q) h5))
      (z392.J1 (some ⟨q, 0, none⟩) ⟨t4, 0, none⟩ (some ⟨o.b, 0, none⟩) a t.st.length c M.ca M.cms.length M.cc (M.cms.length : Nat) (i : Nat) false (z392.K1 Q) g2) := by
     refine (y16 _ _ _).2 ⟨fun e => ⟨_, c1, _, _, _, _, G2.rdc0, ?_⟩, fun e => j1 (by rw [hcs, e]; rfl) G2.tl⟩
     refine VClash_hs (x := (M.cms[i]).cm) (L := Sp (M.cms.map cmoA) :: own a t.st.length c y25 5 (t.st.flatMap wrV) :: pt o.b y54 [.string o.tn, ptrV o.s] :: fam opA (HW.mdel M.l (t.n : Int)) :: pt t4 y36 [.int .i64 0, .slice none 0 0] :: pt q y24 (mgV M) :: storeA M.s M.cs :: cmsA M :: mp intK otV M.r M.l :: L) ol.vi (cmok hl _ hwl2) (G2.sel 11 [2, 9, 1, 3, 4, 5, 6, 7, 8, 10]) fun h5 H5 => ⟨_, rfl, j1 rfl (H5.sel 10 [2, 0, 3, 4, 5, 6, 7, 8, 1, 9])⟩
    repeat' first
     | exact trivial
     | refine And.intro ?_ ?_
     | refine ⟨_, c2, ?_⟩
     | refine VAt_hs GS ⟨_, rfl, ?_⟩
     | exact fin
  exact go M.cms.length 0 (by omega) rfl H4
end Go.Proofs.YtglcanljknjcfaaGreatDoor

set_option maxRecDepth 20000
namespace Go.HW
open Go
section
variable {P : Program} {h : Heap} {L : List Assn} {t e : TypeId} {bz n c i sz : Nat} {z : Value} {a : Option Addr} {xs : List Value}
theorem zeroCells_mem {z : Array Value} {n : Nat} (ho : ∀ v ∈ z.toList, oneC v = true) : ∀ v ∈ (Builtin.zeroCells z n).toList, oneC v = true := by
 intro v hv
 unfold Builtin.zeroCells at hv
 rw [Array.toList_map, List.mem_map] at hv
 obtain ⟨i, hi, rfl⟩ := hv
 simp only [Array.toList_range, List.mem_range] at hi
 have hz : 0 < z.size := Nat.pos_of_ne_zero fun q => by rw [q] at hi; simp at hi
 have hl := Nat.mod_lt i hz
 refine ho _ ?_
 rw [getElem!_pos z _ hl]
 simp
theorem Hs.clear_tail (H : Hs h (own a n c e sz xs :: L)) (E : Elem P t e sz bz z) (hz : z.cells.size = sz) (ho : ∀ v ∈ z.cells.toList, oneC v = true) (hs : 0 < sz) (hi : i ≤ n) {k : IntKind} {ty : TypeId} {K : Heap → Prop}
  (kk : ∀ h', Hs h' (own a i c e sz (xs.take (i * sz)) :: L) → K h') :
  hwp P (Instr.sliceAt t (.slice a n c) (some (.int k (i : Int))) none none) (fun v h1 => ∃ (a2 : Option Addr) (n2 c2 : Nat), v = .slice a2 n2 c2 ∧ hwp P (Builtin.clear_ #[t] ty #[.slice a2 n2 c2]) (fun v h2 => v = .tuple #[] ∧ K h2) h1) h := by
 have hnc := H.own_le
 have hl := H.own_len
 have shr : ∀ {h' : Heap}, Hs h' (own a n c e sz xs :: L) → Hs h' (own a i c e sz (xs.take (i * sz)) :: L) := fun H => H.mono fun m ⟨h1, h2, h3⟩ => by
  have q := Nat.mul_le_mul_right sz hi
  refine ⟨by rw [List.length_take]; omega, by omega, ?_⟩
  rcases h3 with ⟨ha, hc⟩ | ⟨b, off, cs, ha, hm, hc, hx⟩
  ·exact .inl ⟨ha, hc⟩
  ·exact .inr ⟨b, off, cs, ha, hm, hc, fun j hj => by
   rw [List.length_take] at hj
   rw [List.getElem?_take_of_lt (by omega)]; exact hx j (by omega)⟩
 refine hwp_sliceSl (lo := some (.int k (i : Int))) (hi := none) E trivial trivial (by simp [bnd]) (by simp [bnd]; omega) (by simp [bnd]; omega) ?_
 have e1 : (bnd none (n : Int)).toNat - (bnd (some (Value.int k (i : Int))) 0).toNat = n - i := by simp [bnd]
 have e3 : (bnd (some (Value.int k (i : Int))) 0).toNat = i := by simp [bnd]
 refine ⟨_, _, _, rfl, ?_⟩
 rw [e1, e3]
 by_cases hin : i = n
 ·subst hin
  rw [Nat.sub_self]
  generalize (if (c : Int) = bnd (some (Value.int k (i : Int))) 0 then a else a.map (·.add (i * sz))) = a2
  have k1 := kk h (shr H)
  unfold Builtin.clear_
  refine (y10 _ _ _ _).2 ((y32 E.und).2 ?_)
  cases a2 with
  | none => exact ⟨rfl, k1⟩
  | some a2 => exact ⟨rfl, k1⟩
 ·have hcpos : c * sz ≠ 0 := Nat.mul_ne_zero (by omega) (by omega)
  obtain ⟨b, off, ys, rfl, hc1, hx1, H1⟩ := H.own_pt hcpos
  rw [if_neg (by simp [bnd]; omega), Option.map_some, add_mk]
  have hpos : 0 < n - i := by omega
  obtain ⟨q, hq⟩ : ∃ q, n - i = q + 1 := ⟨n - i - 1, by omega⟩
  unfold Builtin.clear_
  refine (y10 _ _ _ _).2 ((y32 E.und).2 ?_)
  rw [hq]
  obtain ⟨inf, hi1, _, _, hi4⟩ := E.info
  have m1 := Nat.mul_le_mul_right sz hnc
  have m2 := Nat.mul_le_mul_right sz hi
  have m3 : (q + 1) * sz = n * sz - i * sz := by rw [← hq, Nat.sub_mul]
  have key : hwp P (Go.zeroValue e) (fun z' h' => hwp P (do storeCells (⟨b, off + i * sz, none⟩ : Addr) (Builtin.zeroCells z'.cells (q + 1)).toList; pure (Value.tuple #[])) (fun v h2 => v = .tuple #[] ∧ K h2) h') h := by
   refine zero_of (by rw [hi1]; exact hi4) ?_
   have hzs : (Builtin.zeroCells z.cells (q + 1)).toList.length = (q + 1) * sz := by rw [Array.length_toList, zeroCells_size, hz]
   have hzm := zeroCells_mem (n := q + 1) ho
   generalize (Builtin.zeroCells z.cells (q + 1)).toList = zl at hzs hzm
   refine (y10 _ _ _ _).2 (storeCells_ok _ ?_)
   refine Hs.wrs_at zl H1 (by omega) hzm fun h' H' => ⟨rfl, kk h' ?_⟩
   rw [Nat.add_zero] at H'
   refine (H'.pt_own (n := i) (c := c) off ?_ ?_ (by omega) ?_)
   ·rw [hx1]
    refine List.ext_getElem? fun j => ?_
    by_cases hj : j < i * sz
    ·rw [List.getElem?_take_of_lt hj, List.getElem?_take_of_lt (by omega), List.getElem?_take_of_lt hj, List.getElem?_drop, List.getElem?_drop, List.append_assoc, List.getElem?_append_left (by simp; omega), List.getElem?_take_of_lt (by omega)]
    ·rw [List.getElem?_eq_none (by rw [List.length_take]; omega), List.getElem?_eq_none (by rw [List.length_take]; omega)]
   ·rw [List.length_take]; omega
   ·simp; omega
  exact (y10 _ _ _ _).2 key
end
end Go.HW
namespace Go.Proofs.YtglcanljknjcfaaGreatDoor
open Go Go.HW
variable {h : Heap} {L : List Assn} {Q : Value → Heap → Prop} {q : Nat} {A : AM} {M : MM} {t t' : ATx} {o o' : OT}
theorem close1_hs {ob : Nat} {v : Int} {x : Cmo} (H : Hs h (pt ob y63 [.int .i64 v] :: L)) (kk : ∀ h', Hs h' (pt ob y63 [.int .i64 v] :: L) → Q (.bool (decide (x.at_ ≤ v))) h') :
  SpecH PP z421 [.agg #[.int .i64 x.at_, .slice x.a x.ws.length x.c], .pointer (some ⟨ob, 0, none⟩)] h Q := by
 refine z420.door ?_
 dsimp only
 have H1 := H.new (t := y36) (cs := #[.int .i64 x.at_, .slice x.a x.ws.length x.c]) (xs := [.int .i64 x.at_, .slice x.a x.ws.length x.c])
 generalize Array.size h = c2 at H1 ⊢
 generalize Array.push h _ = h1 at H1 ⊢
 exact ⟨_, H1.cell (off := 0) rfl, _, H1.m1.cell (off := 0) rfl, kk h1 H1.tl⟩
def keepC (v : Int) (x : Cmo) : Bool := !decide (x.at_ ≤ v)
theorem DelC_hs {ob : Nat} {v : Int} {a : OA} {n c : Nat} {cms : List Cmo} (hn : cms.length = n) (hb : n < 2 ^ 40) (H : Hs h (own a n c y36 2 (cms.flatMap cmoV) :: pt ob y63 [.int .i64 v] :: L))
  (kk : ∀ h', Hs h' (own a (cms.filter (keepC v)).length c y36 2 ((cms.filter (keepC v)).flatMap cmoV) :: L) → Q (.slice a (cms.filter (keepC v)).length c) h') :
  SpecH PP z301 [.slice a n c, .func (.func z421) #[] #[.pointer (some ⟨ob, 0, none⟩)]] h Q := by
 have hnc := H.own_le
 have hP : ∀ i, i ≤ n → (cms.take i).filter (keepC v) = cms.take i → i = n → cms.filter (keepC v) = cms := fun i _ h e => by rw [List.take_of_length_le (by omega)] at h; exact h
 refine z300.door (z302.door ?_)
 have go2 : ∀ (r i j : Nat) {h : Heap} {arr : List Cmo}, j + r = n → arr.length = n → i < j → arr.take i = (cms.take j).filter (keepC v) → arr.drop j = cms.drop j → Hs h (own a n c y36 2 (arr.flatMap cmoV) :: pt ob y63 [.int .i64 v] :: L) →
   z300.L1 a n c (.func (.func z421) #[] #[.pointer (some ⟨ob, 0, none⟩)]) (i : Nat) (j : Nat) (z300.K1 Q) h := by
  intro r
  induction r with
  | zero =>
   intro i j h arr hj hl hij ht hd H
   refine z300.L1_of (y13 (by simp; omega) (z300.L1_X0 ?_))
   rw [List.take_of_length_le (l := cms) (by omega)] at ht
   have hil : (cms.filter (keepC v)).length = i := by rw [← ht, List.length_take]; omega
   refine H.clear_tail y125 (i := i) rfl (by decide) (by decide) (by omega) fun h2 H2 => ?_
   have e1 : (arr.flatMap cmoV).take (i * 2) = (cms.filter (keepC v)).flatMap cmoV := by
    rw [← ht]
    have e : arr.flatMap cmoV = (arr.take i).flatMap cmoV ++ (arr.drop i).flatMap cmoV := by rw [← List.flatMap_append, List.take_append_drop]
    have el : ((arr.take i).flatMap cmoV).length = i * 2 := by rw [y153 cmoV_len, List.length_take, Nat.min_eq_left (by omega)]
    rw [e, ← el, List.take_left]
   rw [e1, ← hil] at H2
   obtain ⟨b, off, ys, rfl, _⟩ := H2.own_pt (by omega)
   rw [← hil]
   exact slice_pre y125 (by omega) ⟨_, _, _, rfl, kk h2 H2.m1.tl⟩
  | succ r ih =>
   intro i j h arr hj hl hij ht hd H
   have hjn : j < n := by omega
   have hx : arr[j]? = some (cms[j]'(by omega)) := by
    have := congrArg (fun l => l[0]?) hd
    simp only [List.getElem?_drop, Nat.add_zero] at this
    rw [this, List.getElem?_eq_getElem (by omega)]
   refine z300.L1_of (y22 (by simp; omega) ?_)
   refine idxf y125 (φ := cmoV) (x := cms[j]'(by omega)) H.rd cmoV_len (by decide) (by omega) (by omega) (by rw [Int.toNat_natCast]; exact hx) fun t1 hr => ⟨_, _, _, _, hr, ?_⟩
   dsimp only
   generalize hxe : cms[j]'(by omega) = x at *
   have H1 := H.new (t := y36) (cs := #[.int .i64 0, .slice none 0 0]) (xs := [.int .i64 0, .slice none 0 0])
   generalize Array.size h = v7 at H1 ⊢
   generalize Array.push h _ = h1 at H1 ⊢
   refine H1.wrs (vs := cmoV x) (hv := cmoV_one _) fun h2 H2 => ⟨_, _, _, _, H2.rdc0, y152 (by kernel_rfl) ?_⟩
   show SpecH PP z421 [_, _] h2 _
   have ew : IntKind.i64.wrap (((j : Nat) : Int) + 1) = ((j + 1 : Nat) : Int) := by rw [y34 (by omega) (by omega)]; omega
   have et : (cms.take (j + 1)).filter (keepC v) = (cms.take j).filter (keepC v) ++ if keepC v x then [x] else [] := by
    rw [List.take_succ_eq_append_getElem (by omega), List.filter_append, hxe]
    cases e : keepC v x <;> simp [e]
   have ed : arr.drop (j + 1) = cms.drop (j + 1) := by
    have := congrArg (List.drop 1) hd
    rw [List.drop_drop, List.drop_drop] at this
    exact this
   refine close1_hs (H2.sel 3 [2, 0, 1]) fun h3 H3 => ⟨_, rfl, ?_⟩
   refine (y16 _ _ _).2 ⟨fun e => ?_, fun e => ?_⟩
   ·have H4 := H3.sel 3 [1, 2, 0]
    refine ⟨_, _, _, _, H4.rdc0, ?_⟩
    refine Hs.idx_wrf (φ := cmoV) x y125 (H4.sel 3 [1, 0, 2]) (by omega) (by omega) cmoV_len (by decide) (cmoV_one _) fun h5 H5 => z300.J1_of ?_
    rw [Int.toNat_natCast] at H5
    have ei : IntKind.i64.wrap (((i : Nat) : Int) + 1) = ((i + 1 : Nat) : Int) := by rw [y34 (by omega) (by omega)]; omega
    dsimp only
    rw [ew, ei]
    refine ih (i + 1) (j + 1) (arr := arr.set i x) (by omega) (by rw [List.length_set]; exact hl) (by omega) ?_ ?_ (H5.sel 3 [0, 2])
    ·rw [et, ← ht, if_pos (by exact e), List.take_set, List.take_succ_eq_append_getElem (by omega), List.set_append, if_neg (by rw [List.length_take]; omega)]
     have : i - (arr.take i).length = 0 := by rw [List.length_take]; omega
     rw [this]; rfl
    ·rw [List.drop_set, if_pos (by omega)]; exact ed
   ·refine z300.J1_of ?_
    dsimp only
    rw [ew]
    refine ih i (j + 1) (arr := arr) (by omega) hl (by omega) ?_ ed (H3.sel 3 [2, 0])
    rw [et, ← ht, if_neg (by show ¬ (keepC v x = true); unfold keepC; rw [e]; simp), List.append_nil]
 have go1 : ∀ (r i : Nat) {h : Heap}, i + r = n → (cms.take i).filter (keepC v) = cms.take i → Hs h (own a n c y36 2 (cms.flatMap cmoV) :: pt ob y63 [.int .i64 v] :: L) →
   z302.L1 a n c (.func (.func z421) #[] #[.pointer (some ⟨ob, 0, none⟩)]) (n : Nat) (i : Nat) (z302.K1 fun v_1 h1 => ∃ (t10 : Int), v_1 = (.int .i64 t10) ∧
    br (t10 == (-1)) (Q (.slice a n c) h1) (z300.L1 a n c (.func (.func z421) #[] #[.pointer (some ⟨ob, 0, none⟩)]) t10 (IntKind.i64.wrap (t10 + 1)) (z300.K1 Q) h1)) h := by
  intro r
  induction r with
  | zero =>
   intro i h hi ha H
   refine z302.L1_of (y13 (by simp; omega) (z302.L1_X0 ⟨_, rfl, y22 rfl ?_⟩))
   rw [hP i (by omega) ha (by omega), hn] at kk
   exact kk h H.m1.tl
  | succ r ih =>
   intro i h hi ha H
   have hl : i < cms.length := by omega
   refine z302.L1_of (y22 (by simp; omega) ?_)
   refine idxf y125 (φ := cmoV) (x := cms[i]) H.rd cmoV_len (by decide) (by omega) (by omega) (by rw [Int.toNat_natCast, List.getElem?_eq_getElem hl]) fun t1 hr => ⟨_, _, _, _, hr, y152 (by kernel_rfl) ?_⟩
   show SpecH PP z421 [_, _] h _
   have ew : IntKind.i64.wrap (((i : Nat) : Int) + 1) = ((i + 1 : Nat) : Int) := by rw [y34 (by omega) (by omega)]; omega
   have et : (cms.take (i + 1)).filter (keepC v) = cms.take i ++ if keepC v cms[i] then [cms[i]] else [] := by
    rw [List.take_succ_eq_append_getElem hl, List.filter_append, ha]
    cases e : keepC v cms[i] <;> simp [e]
   refine close1_hs (H.sel 2 [1, 0]) fun h3 H3 => ⟨_, rfl, ?_⟩
   have H3 := H3.sel 2 [1, 0]
   dsimp only
   refine (y16 _ _ _).2 ⟨fun e => z302.L1_Xret ⟨_, rfl, ?_⟩, fun e => ?_⟩
   ·refine y13 (by simp) ?_
    rw [ew]
    refine go2 r i (i + 1) (by omega) hn (by omega) ?_ rfl H3
    rw [et, if_neg (by show ¬ (keepC v _ = true); unfold keepC; rw [e]; simp), List.append_nil]
   ·rw [ew]
    refine ih (i + 1) (by omega) ?_ H3
    rw [et, if_pos (by show keepC v _ = true; unfold keepC; rw [e]; rfl), List.take_succ_eq_append_getElem hl]
 exact go1 n 0 (by omega) (by simp) H
end Go.Proofs.YtglcanljknjcfaaGreatDoor

set_option maxRecDepth 20000
namespace Go.Proofs.YtglcanljknjcfaaGreatDoor
open Go Go.HW
variable {h : Heap} {L : List Assn} {Q : Value → Heap → Prop} {q : Nat} {A : AM} {M : MM} {t t' : ATx} {o o' : OT}
theorem filter_mapIdx : ∀ (l : List (List Wr)) (b d : Nat), ((l.mapIdx fun i ws => (((b + i + 1 : Nat) : Int), ws)).filter fun y => !decide (y.1 ≤ ((b + d : Nat) : Int))) = (l.drop d).mapIdx fun i ws => (((b + d + i + 1 : Nat) : Int), ws)
 | [], b, d => by simp
 | x :: l, b, 0 => by
  rw [List.filter_eq_self.2 ?_]
  ·rfl
  ·intro y hy
   obtain ⟨i, hi, rfl⟩ := List.getElem_of_mem hy
   rw [List.getElem_mapIdx]
   simp only [Bool.not_eq_true', decide_eq_false_iff_not]; omega
 | x :: l, b, d + 1 => by
  rw [List.mapIdx_cons, List.filter_cons_of_neg (by simp; omega), List.drop_succ_cons]
  have := filter_mapIdx l (b + 1) d
  rw [show (fun (i : Nat) (ws : List Wr) => (((b + (i + 1) + 1 : Nat) : Int), ws)) = fun i ws => (((b + 1 + i + 1 : Nat) : Int), ws) from by funext i ws; rw [show b + (i + 1) + 1 = b + 1 + i + 1 by omega]]
  rw [show b + (d + 1) = b + 1 + d by omega]
  exact this
theorem cmts_filter (j u : Nat) : ((cmts A j).filter fun y => !decide (y.1 ≤ ((A.first + u : Nat) : Int))) = cmts A (max j u) := by
 unfold cmts
 rcases Nat.lt_or_ge u j with c | c
 ·rw [Nat.max_eq_left (by omega), List.filter_eq_self.2 ?_]
  intro y hy
  obtain ⟨i, hi, rfl⟩ := List.getElem_of_mem hy
  rw [List.getElem_mapIdx]
  simp only [Bool.not_eq_true', decide_eq_false_iff_not]; omega
 ·rw [Nat.max_eq_right c]
  have := filter_mapIdx (A.wrs.drop j) (A.first + j) (u - j)
  rw [List.drop_drop, show A.first + j + (u - j) = A.first + u by omega, show j + (u - j) = u by omega] at this
  exact this
theorem Sp_filter {α : Type} {F : α → Assn} {p : α → Bool} : ∀ {l : List α} {m : PM}, Sp (l.map F) m → Sp ((l.filter p).map F) m
 | [], m, h => h
 | x :: l, m, h => by
  rw [List.map_cons] at h
  rw [List.filter_cons]
  split
  ·exact Sp.cons (fun m h => h) (fun m h => Sp_filter h) h
  ·exact Sp_filter (Sp.tl h)
theorem fam_mdel {α β : Type} [DecidableEq α] {F : β → Assn} {l : List (α × β)} {k : α} {m : PM} (h : fam F l m) : fam F (HW.mdel l k) m := Sp_filter h
theorem mget_mdel_ne {α β : Type} [DecidableEq α] {l : List (α × β)} {k j : α} (h : k ≠ j) : mget (HW.mdel l k) j = mget l j := by
 unfold HW.mdel
 induction l with
 | nil => rfl
 | cons x l ih =>
  rw [List.filter_cons, y50]
  split
  ·rw [y50, ih]
  ·rename_i e
   rw [ih, if_neg]
   intro q
   simp only [Bool.not_eq_true', decide_eq_false_iff_not, Decidable.not_not] at e
   exact h (e.symm.trans q)
theorem LinkM.close (lk : LinkM A M) (n : Int) {u : Nat} {cs' : CS} (hu : u ≤ A.wrs.length) (hut : ∀ t ∈ (A.close n).txs, u ≤ t.snap) (ci : CI cs') (hnow : cs'.now = M.cs.now)
  (hfl : cs'.floor = M.cs.floor ∨ cs'.floor = ((A.first + u + 1 : Nat) : Int)) (hget : ∀ k t, ((A.first + u + 1 : Nat) : Int) ≤ t → M.cs.floor ≤ t → cs'.get k t = M.cs.get k t) (htot : cs'.total ≤ M.cs.total) :
  LinkM (A.close n) { M with cs := cs', cms := M.cms.filter (keepC ((A.first + u : Nat) : Int)), l := HW.mdel M.l n } := by
 obtain ⟨j, h1, h2, h3, h4, h5⟩ := lk.st
 refine ⟨lk.ai.close n, ci, by show cs'.now = _; rw [hnow]; exact lk.now, ⟨max j u, Nat.max_le.2 ⟨h1, hu⟩, ?_, fun i hi hl k => ?_, ?_, fun t ht => Nat.max_le.2 ⟨h5 t (List.mem_filter.1 ht).1, hut t ht⟩⟩, Nat.le_trans htot lk.tot, lk.last, ?_, fun t ht => ?_⟩
 ·show cs'.floor ≤ ((A.first + max j u + 1 : Nat) : Int)
  rcases hfl with e | e <;> rw [e] <;> omega
 ·have hi := Nat.max_le.1 hi
  show cs'.get k ((A.first + i + 1 : Nat) : Int) = ofO (mget (A.sta i) k)
  rw [hget k _ (by omega) (by omega)]
  exact h3 i hi.1 hl k
 ·show (M.cms.filter _).map (fun x => (x.at_, x.ws)) = cmts A (max j u)
  rw [← cmts_filter j u, ← h4, List.filter_map]
  rfl
 ·show ((HW.mdel M.l n).map (·.1)).Perm ((A.txs.filter fun t => decide ((t.n : Int) ≠ n)).map fun t => (t.n : Int))
  have e1 : (HW.mdel M.l n).map (·.1) = (M.l.map (·.1)).filter fun x => !decide (x = n) := by unfold HW.mdel; rw [List.filter_map]; rfl
  have e2 : (A.txs.filter fun t => decide ((t.n : Int) ≠ n)).map (fun t => (t.n : Int)) = (A.txs.map fun t => (t.n : Int)).filter fun x => !decide (x = n) := by
   rw [List.filter_map]
   refine congrArg (fun p => (A.txs.filter p).map fun t : ATx => (t.n : Int)) (funext fun t => ?_)
   simp [Function.comp]
  rw [e1, e2]
  exact lk.ks.filter _
 ·obtain ⟨h6, h7⟩ := List.mem_filter.1 ht
  obtain ⟨o, g1, g2⟩ := lk.tx t h6
  exact ⟨o, by show mget (HW.mdel M.l n) _ = _; rw [mget_mdel_ne (Ne.symm (by simpa using h7))]; exact g1, g2⟩
theorem MClose_hs {n : Int} (hb : Bd A) (H : Hs h (manA q A :: L)) (kk : ∀ h', Hs h' (manA q (A.close n) :: L) → Q (.tuple #[]) h') : SpecH PP z419 [.pointer (some ⟨q, 0, none⟩), .int .i64 n] h Q := by
 obtain ⟨M, lk, H0⟩ := y68.1 H
 have hnow : A.now < 2 ^ 40 := by have := hb.first; have := hb.sts; unfold AM.now; omega
 have hcl := cms_few lk
 have hlen := lk.ai.len
 have hsts := hb.sts
 have hfi := hb.first
 have htot : M.cs.total < 2 ^ 40 := by have := lk.tot; have := hb.tot; omega
 have hnw : A.now = A.first + A.wrs.length := by unfold AM.now; omega
 refine z418.door ⟨_, H0.cell (off := 2) rfl, ?_⟩
 refine (H0.sel 6 [4, 0, 1, 2, 3, 5]).mdel y100 Ky_int n fun h1 H1 => ⟨rfl, ?_⟩
 refine NowR_hs (q := q) (A := A) (M := M) lk.now hnow (H1.sel 6 [1, 2, 0, 3, 4, 5]) ⟨_, rfl, ?_⟩
 dsimp only
 have H2 := H1.new (t := y63) (cs := #[.int .i64 0]) (xs := [.int .i64 0])
 generalize Array.size h1 = ob at H2 ⊢
 generalize Array.push h1 _ = h2 at H2 ⊢
 refine H2.sto (off := 0) (by simp) fun h3 H3 => ?_
 have H3 : Hs h3 (pt ob y63 [.int .i64 ((A.first + A.wrs.length : Nat) : Int)] :: mp intK otV M.r (HW.mdel M.l n) :: pt q y24 (mgV M) :: storeA M.s M.cs :: cmsA M :: Sp (M.cms.map cmoA) :: fam opA M.l :: L) := by rw [← hnw]; exact H3
 refine ⟨_, (H3.sel 3 [2, 0, 1]).cell (off := 2) rfl, ?_⟩
 have H4 : Hs h3 (fam opA (HW.mdel M.l n) :: mp intK otV M.r (HW.mdel M.l n) :: pt ob y63 [.int .i64 ((A.first + A.wrs.length : Nat) : Int)] :: pt q y24 (mgV M) :: storeA M.s M.cs :: cmsA M :: Sp (M.cms.map cmoA) :: L) := (H3.sel 7 [6, 1, 0, 2, 3, 4, 5]).mono fun m hm => fam_mdel hm
 have nd : ((HW.mdel M.l n).map (·.1)).Nodup := lk.nd.sublist (List.filter_sublist.map _)
 have told : ∀ x ∈ HW.mdel M.l n, ∃ t ∈ (A.close n).txs, (t.n : Int) = x.1 ∧ OLink A.first t x.2 := by
  intro x hx
  obtain ⟨hx1, hx2⟩ := List.mem_filter.1 hx
  have hk : x.1 ∈ A.txs.map fun t => (t.n : Int) := lk.ks.mem_iff.1 (List.mem_map_of_mem (f := (·.1)) hx1)
  obtain ⟨t, ht, et⟩ := List.mem_map.1 hk
  have et : (t.n : Int) = x.1 := et
  obtain ⟨o, g1, g2⟩ := lk.tx t ht
  have := y105 lk.nd hx1
  rw [← et, g1] at this
  refine ⟨t, List.mem_filter.2 ⟨ht, ?_⟩, et, (Option.some.inj this) ▸ g2⟩
  rw [et]; simpa using hx2
 refine (H4.sel 2 [1, 0]).range y100 fun h5 i H5 => ⟨_, rfl, ?_⟩
 have fin : ∀ {h : Heap} {u : Nat} {done : List (Int × OT)}, u ≤ A.wrs.length → (∀ x ∈ done, ((A.first + u : Nat) : Int) ≤ x.2.vs.at_) → done.Perm (HW.mdel M.l n) →
   Hs h (mp intK otV M.r (HW.mdel M.l n) :: fam opA (HW.mdel M.l n) :: pt ob y63 [.int .i64 ((A.first + u : Nat) : Int)] :: pt q y24 (mgV M) :: storeA M.s M.cs :: cmsA M :: Sp (M.cms.map cmoA) :: L) →
   (z418.K1 Q) (.exit 0) (z418.X0 (some ⟨q, 0, none⟩) ⟨ob, 0, none⟩) h := by
  intro h u done hu hdu hp H
  have hut : ∀ t ∈ (A.close n).txs, u ≤ t.snap := by
   intro t ht
   obtain ⟨h6, h7⟩ := List.mem_filter.1 ht
   obtain ⟨o, g1, g2⟩ := lk.tx t h6
   have hm : ((t.n : Int), o) ∈ HW.mdel M.l n := List.mem_filter.2 ⟨y87 g1, by simpa using h7⟩
   have := hdu _ (hp.mem_iff.2 hm)
   have e := g2.at_
   simp only at this
   omega
  refine z418.L1_X0 ⟨_, (H.sel 4 [3, 0, 1, 2]).cell (off := 0) rfl, _, (H.sel 3 [2, 0, 1]).cell (off := 0) rfl, ?_⟩
  have ew : IntKind.i64.wrap (((A.first + u : Nat) : Int) + 1) = ((A.first + u + 1 : Nat) : Int) := by rw [y34 (by omega) (by omega)]; omega
  dsimp only
  rw [ew]
  have fin2 : ∀ {h : Heap} {cs' : CS}, CI cs' → cs'.now = M.cs.now → (cs'.floor = M.cs.floor ∨ cs'.floor = ((A.first + u + 1 : Nat) : Int)) → (∀ k t, ((A.first + u + 1 : Nat) : Int) ≤ t → M.cs.floor ≤ t → cs'.get k t = M.cs.get k t) → cs'.total ≤ M.cs.total →
    Hs h (storeA M.s cs' :: mp intK otV M.r (HW.mdel M.l n) :: fam opA (HW.mdel M.l n) :: pt ob y63 [.int .i64 ((A.first + u : Nat) : Int)] :: pt q y24 (mgV M) :: cmsA M :: Sp (M.cms.map cmoA) :: L) →
    ∃ (t41 : OA) (t41n t41c : Nat), cellH h (Addr.add ⟨q, 0, none⟩ 1) = some (.slice t41 t41n t41c) ∧
    SpecH PP z301 [(.slice t41 t41n t41c), (.func (.func z421) #[] #[(.pointer (some ⟨ob, 0, none⟩))])] h (fun v_1 h2 => ∃ (t43 : OA) (t43n t43c : Nat), v_1 = (.slice t43 t43n t43c) ∧
    wr (Addr.add ⟨q, 0, none⟩ 1) (.slice t43 t43n t43c) (fun h3 => Q (.tuple #[]) h3) h2) := by
   intro h cs' c1 c2 c3 c4 c5 H
   refine ⟨_, _, _, (H.sel 5 [4, 0, 1, 2, 3]).cell (off := 1) rfl, ?_⟩
   refine DelC_hs rfl (by omega) (H.sel 7 [5, 3, 0, 1, 2, 4, 6]) fun h2 H2 => ⟨_, _, _, rfl, ?_⟩
   refine (H2.sel 6 [4, 0, 1, 2, 3, 5]).sto (off := 1) (by simp [mgV]) fun h3 H3 => kk h3 ?_
   refine y68.2 ⟨_, lk.close n hu hut c1 c2 c3 c4 c5, ?_⟩
   have H4 : Hs h3 (Sp ((M.cms.filter (keepC ((A.first + u : Nat) : Int))).map cmoA) :: _) := (H3.sel 6 [5, 0, 1, 2, 3, 4]).mono fun m hm => Sp_filter hm
   exact H4.sel 6 [1, 3, 2, 0, 4, 5]
  refine Prune_hs lk.ci htot (H.sel 5 [4, 0, 1, 2, 3]) (fun hle => ⟨_, rfl, ?_⟩) fun hlt h2 v' gone pr H2 => ⟨_, rfl, ?_⟩
  ·exact fin2 lk.ci rfl (.inl rfl) (fun _ _ _ _ => rfl) (Nat.le_refl _) (H.sel 5 [4, 0, 1, 2, 3])
  ·have hmin : (if M.cs.now < ((A.first + u + 1 : Nat) : Int) then M.cs.now else ((A.first + u + 1 : Nat) : Int)) = ((A.first + u + 1 : Nat) : Int) := if_neg (by rw [lk.now]; omega)
   rw [hmin] at pr
   refine fin2 (pr.ci lk.ci ⟨by omega, by rw [lk.now]; omega⟩) pr.now (.inr pr.floor) (fun k t ht hf => ?_) (by have := pr.tot; omega) H2
   unfold CS.get
   rw [pruned_vs pr, mx_of hf, mx_of (by rw [pr.floor]; exact ht)]
   exact pr_keeps ht
 have go : ∀ (r : Nat) {h : Heap} {u : Nat} {done todo : List (Int × OT)}, todo.length ≤ r → u ≤ A.wrs.length → (∀ x ∈ done, ((A.first + u : Nat) : Int) ≤ x.2.vs.at_) →
   Hs h (rgn intK otV M.r i (HW.mdel M.l n) done todo :: fam opA (HW.mdel M.l n) :: pt ob y63 [.int .i64 ((A.first + u : Nat) : Int)] :: pt q y24 (mgV M) :: storeA M.s M.cs :: cmsA M :: Sp (M.cms.map cmoA) :: L) →
   z418.L1 (some ⟨q, 0, none⟩) ⟨ob, 0, none⟩ (.pointer (some ⟨i, 0, none⟩)) (z418.K1 Q) h := by
  intro r
  induction r with
  | zero =>
   intro h u done todo hr hu hd H
   have hp := H.rgn_perm
   refine z418.L1_of (H.next (fun e => ⟨false, [], rfl, y13 rfl ?_⟩) (fun h' x todo' p _ => by have := p.length_eq; simp at this; omega))
   rw [e, List.append_nil] at hp
   exact fin hu hd hp H.rgn_end
  | succ r ih =>
   intro h u done todo hr hu hd H
   have hp := H.rgn_perm
   refine z418.L1_of (H.next (fun e => ⟨false, [], rfl, y13 rfl ?_⟩) (fun h' x todo' p H2 => ⟨true, [intK x.1, otV x.2], rfl, y22 rfl ?_⟩))
   ·rw [e, List.append_nil] at hp
    exact fin hu hd hp H.rgn_end
   ·have hl := p.length_eq
    rw [List.length_cons] at hl
    have hx : x ∈ HW.mdel M.l n := hp.mem_iff.1 (List.mem_append_right _ (p.mem_iff.2 (List.mem_cons_self ..)))
    obtain ⟨t, ht, et, ol⟩ := told x hx
    have hts := (lk.ai.close n).tx t ht
    have hsn : t.snap < A.sts.length := hts.snap
    refine H2.entry ⟨_, _, rfl, _, rfl, ?_⟩
    have H3 := y113.1 ((H2.sel 2 [1, 0]).fam_take nd (y105 nd hx))
    refine ⟨_, H3.cell (off := 1) rfl, ?_⟩
    have ca := H3.m4.cell (off := 0) rfl
    have HS := H3.sel 2 [1, 0]
    have nxt : ∀ {v : Int}, v = (if x.2.vs.at_ < ((A.first + u : Nat) : Int) then x.2.vs.at_ else ((A.first + u : Nat) : Int)) → wr ⟨ob, 0, none⟩ (.int .i64 v) (fun h6 => z418.L1 (some ⟨q, 0, none⟩) ⟨ob, 0, none⟩ (.pointer (some ⟨i, 0, none⟩)) (z418.K1 Q) h6) h' := by
     intro v ev
     refine H3.m4.sto (off := 0) (by simp) fun h6 H6 => ?_
     have hv : ∃ u' : Nat, v = ((A.first + u' : Nat) : Int) ∧ u' ≤ u ∧ (u' ≤ t.snap) := by
      rw [ev, ol.at_]
      split
      ·exact ⟨t.snap, rfl, by omega, Nat.le_refl _⟩
      ·exact ⟨u, rfl, Nat.le_refl _, by omega⟩
     obtain ⟨u', e1, e2, e3⟩ := hv
     subst e1
     have G := (y113.2 (H6.sel 5 [1, 2, 3, 4, 0])).fam_back nd (y105 nd hx)
     refine ih (done := done ++ [x]) (todo := todo') (by omega) (by omega) (fun y hy => ?_) (G.sel 3 [1, 0, 2])
     rcases List.mem_append.1 hy with hy | hy
     ·have := hd y hy; omega
     ·rw [List.mem_singleton.1 hy, ol.at_]; omega
    repeat' first
     | exact nxt rfl
     | exact trivial
     | refine And.intro ?_ ?_
     | refine ⟨_, ca, ?_⟩
     | refine VAt_hs HS ⟨_, rfl, ?_⟩
 exact go (HW.mdel M.l n).length (u := A.wrs.length) (done := []) (todo := HW.mdel M.l n) (Nat.le_refl _) (Nat.le_refl _) (fun _ hx => absurd hx List.not_mem_nil) H5
end Go.Proofs.YtglcanljknjcfaaGreatDoor

set_option maxRecDepth 20000
namespace Go.Proofs.YtglcanljknjcfaaGreatDoor
open Go Go.HW
variable {h : Heap} {L : List Assn} {Q : Value → Heap → Prop} {q : Nat} {A : AM} {M : MM} {t t' : ATx} {o o' : OT}
theorem CI.put {v : CS} {a : Int} (ws : List Wr) (c : CI v) (h : v.now < a) : CI (v.put a ws) := by
 have hp : 0 < a := by have := c.floor; omega
 have key : ∀ (ws : List Wr) (v : CS), CI v → v.now = a → CI (ws.foldl (CS.put1 a) v) := by
  intro ws
  induction ws with
  | nil => intro v c _; exact c
  | cons w ws ih => intro v c e; exact ih (v.put1 a w) (c.put1 e hp) e
 exact key ws { v with now := a } (c.now_up (by omega)) rfl
theorem acc_all (k : Key) : ∀ (ws : List Wr) {s : Sta}, SRise s → ws.foldl (accW k) (ofO (mget s k)) = ofO (mget (sall s ws) k)
 | [], s, _ => rfl
 | w :: ws, s, hs => by
  rw [List.foldl_cons]
  show ws.foldl (accW k) _ = ofO (mget (sall (swith s w) ws) k)
  rw [← acc_all k ws (hs.with w)]
  congr 1
  rw [mget_swith hs]
  unfold accW
  split
  ·cases w.there <;> rfl
  ·rfl
theorem cmts_push {j : Nat} {ws : List Wr} (hj : j ≤ A.wrs.length) : cmts (A.push ws) j = cmts A j ++ [(((A.first + A.wrs.length + 1 : Nat) : Int), ws)] := by
 unfold cmts AM.push
 simp only
 rw [List.drop_append_of_le_length hj, List.mapIdx_append]
 congr 1
 rw [List.mapIdx_cons, List.mapIdx_nil, List.length_drop]
 congr 2
 omega
theorem y157 (ai : AI A) : A.state = A.sta A.wrs.length := by
 unfold AM.state AM.sta
 rw [List.getLast?_eq_getElem?]
 congr 2
 have := ai.len; omega
theorem LinkM.push (lk : LinkM A M) {ws : List Wr} {x : Cmo} {a : OA} {c : Nat} {tn : Nm} (hr : Rise ws) (hw : ∀ w ∈ ws, WOk tn w) (hx : x.at_ = ((A.now + 1 : Nat) : Int)) (hxw : x.ws = ws) :
  LinkM (A.push ws) { M with cs := M.cs.put ((A.now + 2 : Nat) : Int) ws, ca := a, cc := c, cms := M.cms ++ [x] } := by
 obtain ⟨j, h1, h2, h3, h4, h5⟩ := lk.st
 have hlen := lk.ai.len
 have hpos : 0 < A.sts.length := List.length_pos_iff.2 lk.ai.ne
 have hnw : A.now = A.first + A.wrs.length := by unfold AM.now; omega
 have hlt : M.cs.now < ((A.now + 2 : Nat) : Int) := by rw [lk.now]; omega
 have hfl := put_fl M.cs ((A.now + 2 : Nat) : Int) ws
 have hf := lk.ci.floor
 have hold : ∀ i, i < A.sts.length → (A.push ws).sta i = A.sta i := fun i hi => by
  unfold AM.push AM.sta; simp only; rw [List.getElem?_append_left hi]
 refine ⟨lk.ai.push hr hw, lk.ci.put ws hlt, ?_, ⟨j, ?_, ?_, fun i hi hl k => ?_, ?_, fun t ht => h5 t ht⟩, ?_, lk.last, lk.ks, lk.tx⟩
 ·show (M.cs.put _ ws).now = _
  rw [hfl.2]
  unfold AM.now AM.push
  simp only [List.length_append, List.length_singleton]
  omega
 ·unfold AM.push; simp only [List.length_append, List.length_singleton]; omega
 ·show (M.cs.put _ ws).floor ≤ _
  rw [hfl.1]; exact h2
 ·have hl : i < A.sts.length + 1 := by unfold AM.push at hl; simpa using hl
  show (M.cs.put _ ws).get k ((A.first + i + 1 : Nat) : Int) = _
  rcases Nat.lt_or_ge i A.sts.length with c | c
  ·rw [hold i c, put_keeps k ws (by rw [mx_of (by omega)]; omega)]
   exact h3 i hi c k
  ·have hi : i = A.sts.length := by omega
   subst hi
   rw [show ((A.first + A.sts.length + 1 : Nat) : Int) = ((A.now + 2 : Nat) : Int) by omega, put_now k ws lk.ci hlt, lk.now]
   have := h3 A.wrs.length h1 (by omega) k
   rw [show ((A.now + 1 : Nat) : Int) = ((A.first + A.wrs.length + 1 : Nat) : Int) by omega, this, ← y157 lk.ai, acc_all k ws lk.ai.state]
   have : (A.push ws).sta A.sts.length = sall A.state ws := by
    unfold AM.push AM.sta
    simp only
    rw [List.getElem?_append_right (Nat.le_refl _), Nat.sub_self]; rfl
   rw [this]
 ·show (M.cms ++ [x]).map (fun x => (x.at_, x.ws)) = _
  rw [cmts_push h1, List.map_append, h4, List.map_singleton, hx, hxw, hnw]
 ·have := put_total M.cs ((A.now + 2 : Nat) : Int) ws
  have ht := lk.tot
  show (M.cs.put _ ws).total ≤ ((A.push ws).sta 0).length + _
  rw [hold 0 hpos]
  unfold AM.push
  simp only [List.map_append, List.sum_append, List.map_singleton, List.sum_singleton]
  omega
theorem check_err (A : AM) (n : Int) : (A.check n).2.2 = 0 ∨ (A.check n).2.2 = 140 ∨ (A.check n).2.2 = 142 ∨ (A.check n).2.2 = 145 := by
 unfold AM.check
 split
 ·exact .inr (.inl rfl)
 ·split
  ·exact .inl rfl
  split
  ·exact .inr (.inr (.inl rfl))
  split
  ·exact .inr (.inr (.inr rfl))
  ·exact .inl rfl
theorem check_ok {n : Int} (ai : AI A) (h : (A.check n).2.2 = 0) (hne : (A.check n).2.1 ≠ []) : ∃ t ∈ A.txs, A.find n = some t ∧ (A.check n).2.1 = t.st ∧ (A.check n).1 = A.now + 1 := by
 unfold AM.check at h hne ⊢
 split at h
 ·cases h
 ·rename_i t e
  rw [e] at hne
  dsimp only at hne ⊢
  refine ⟨t, (y69 e).1, e, ?_⟩
  by_cases c1 : t.st = []
  ·rw [if_pos c1] at hne; exact absurd rfl hne
  rw [if_neg c1] at hne h ⊢
  by_cases c2 : A.conf t = true
  ·rw [if_pos c2] at h; cases h
  rw [if_neg c2] at hne h ⊢
  by_cases c3 : fitsB A.state t.tn t.st = false
  ·rw [if_pos c3] at h; cases h
  rw [if_neg c3]
  exact ⟨rfl, rfl⟩
theorem y191 {n : Int} (hb : Bd A) (hb2 : Bd (A.push (A.check n).2.1)) (H : Hs h (manA q A :: L)) (kk : ∀ h', Hs h' (manA q (A.commit n).1 :: L) → Q (.tuple #[.int .i64 ((A.commit n).2.1 : Nat), .int .i64 (A.commit n).2.2]) h') :
  SpecH PP z395 [.pointer (some ⟨q, 0, none⟩), .int .i64 n] h Q := by
 have hce := check_err A n
 refine z394.door (MCheck_hs hb H fun h1 a c H1 => ⟨_, _, _, _, _, rfl, ?_⟩)
 have hco := fun ai => check_ok (n := n) (A := A) ai
 have hcm : A.commit n = (if (A.check n).2.2 = 140 then (A, 0, 140) else ((if (A.check n).2.2 = 0 ∧ (A.check n).2.1 ≠ [] then A.push (A.check n).2.1 else A).close n, (A.check n).1, (A.check n).2.2)) := rfl
 rw [hcm] at kk
 generalize A.check n = C at *
 obtain ⟨at_, ws, e⟩ := C
 simp only at *
 have H2 := H1.new (t := y36) (cs := #[.int .i64 0, .slice none 0 0]) (xs := [.int .i64 0, .slice none 0 0])
 generalize Array.size h1 = c6 at H2 ⊢
 generalize Array.push h1 _ = h2 at H2 ⊢
 refine H2.wrs fun h3 H3 => ?_
 refine y13 (by rcases hce with rfl | rfl | rfl | rfl <;> rfl) (z394.J1_of ?_)
 by_cases e140 : e = 140
 ·subst e140
  rw [if_pos rfl] at kk
  exact y22 rfl (kk h3 (H3.sel 3 [2]))
 rw [if_neg e140] at kk
 refine y13 (by simpa using e140) ?_
 have j3 : ∀ {h : Heap} {B : AM}, Bd B → (if e = 0 ∧ ws ≠ [] then A.push ws else A) = B → Hs h (manA q B :: pt c6 y36 [.int .i64 (at_ : Nat), .slice a ws.length c] :: L) → z394.J3 (some ⟨q, 0, none⟩) n ⟨c6, 0, none⟩ e Q h := by
  intro h B hB eB H
  refine z394.J3_of (MClose_hs hB H fun h2 H2 => ⟨rfl, _, H2.m1.cell (off := 0) rfl, ?_⟩)
  rw [eB] at kk
  exact kk h2 (H2.sel 2 [0])
 refine (y16 _ _ _).2 ⟨fun e0' => ?_, fun e0' => ?_⟩
 ·have e0' : e = 0 := by simpa using e0'
  subst e0'
  refine ⟨_, _, _, H3.cell (off := 1) rfl, z394.J2_of ?_⟩
  by_cases hw : ws = []
  ·subst hw
   exact y13 rfl (j3 hb (if_neg (by simp)) (H3.sel 3 [2, 0]))
  have hl : 0 < ws.length := List.length_pos_iff.2 hw
  refine y22 (decide_eq_true (by omega)) ?_
  obtain ⟨M, lk, H4⟩ := y68.1 (H3.sel 3 [2, 1, 0])
  have G5 : Hs h3 (pt q y24 (mgV M) :: storeA M.s M.cs :: cmsA M :: Sp (M.cms.map cmoA) :: mp intK otV M.r M.l :: fam opA M.l :: own a ws.length c y25 5 (ws.flatMap wrV) :: pt c6 y36 [.int .i64 (at_ : Nat), .slice a ws.length c] :: L) := H4
  obtain ⟨t, ht, ef, est, eat⟩ := hco lk.ai rfl hw
  have hti := lk.ai.tx t ht
  have hbs := hb2.sts
  have hbt := hb2.tot
  have hbf := hb.first
  have hpl : (A.push ws).sts.length = A.sts.length + 1 := by unfold AM.push; simp
  have hpw : ((A.push ws).wrs.map (·.length)).sum = (A.wrs.map (·.length)).sum + ws.length := by unfold AM.push; simp
  have hps : (A.push ws).sta 0 = A.sta 0 := by
   unfold AM.push AM.sta; simp only; rw [List.getElem?_append_left (List.length_pos_iff.2 lk.ai.ne)]
  rw [hps, hpw] at hbt
  have htt := lk.tot
  have hnow : A.now < 2 ^ 40 := by unfold AM.now; omega
  have hcl := cms_few lk
  have hlen := lk.ai.len
  refine ⟨_, G5.cell (off := 0) rfl, _, (G5.sel 8 [7]).cell (off := 0) rfl, _, _, _, (G5.sel 8 [7]).cell (off := 1) rfl, ?_⟩
  have ew : IntKind.i64.wrap (((at_ : Nat) : Int) + 1) = ((A.now + 2 : Nat) : Int) := by rw [eat, y34 (by omega) (by omega)]; omega
  dsimp only
  rw [ew]
  have ok : CmOk (own a ws.length c y25 5 (ws.flatMap wrV) :: pt q y24 (mgV M) :: cmsA M :: Sp (M.cms.map cmoA) :: mp intK otV M.r M.l :: fam opA M.l :: pt c6 y36 [.int .i64 (at_ : Nat), .slice a ws.length c] :: L) (⟨((A.now + 2 : Nat) : Int), a, ws.length, c, ws⟩ : Cm) := ⟨fun h H => H.rd, rfl, by show ws.length < 2 ^ 60; omega⟩
  refine Put_hs (x := ⟨((A.now + 2 : Nat) : Int), a, ws.length, c, ws⟩) (by show M.cs.total + ws.length < 2 ^ 40; omega) ok (G5.sel 8 [1, 6, 0, 2, 3, 4, 5, 7]) (fun hle => ?_) fun hlt h5 H5 => ⟨_, rfl, ?_⟩
  ·exfalso
   have hle : ((A.now + 2 : Nat) : Int) ≤ M.cs.now := hle
   rw [lk.now] at hle; omega
  refine ⟨_, _, _, (H5.sel 8 [2]).cell (off := 1) rfl, _, _, _, _, (H5.sel 8 [7]).rdc0, ?_⟩
  have H6 := H5.sel 8 [3, 0, 1, 2, 4, 5, 6, 7]
  refine H6.app_vals y125 (m := 1) (ys := [.int .i64 (at_ : Nat), .slice a ws.length c]) rfl rfl (by intro v hv; simp at hv; rcases hv with rfl | rfl <;> rfl) (fun h7 a' c' H7 => ⟨_, _, _, rfl, ?_⟩) (by omega) (by omega)
  refine (H7.sel 8 [3, 0, 1, 2, 4, 5, 6, 7]).sto (off := 1) (by simp [mgV]) fun h8 H8 => ?_
  have lk2 := lk.push (ws := ws) (x := ⟨((at_ : Nat) : Int), a, c, ws⟩) (a := a') (c := c') (by rw [est]; exact hti.rise) (by rw [est]; exact hti.wok) (by show ((at_ : Nat) : Int) = _; rw [eat]) rfl
  have H9 : Hs h8 (manA q (A.push ws) :: pt c6 y36 [.int .i64 (at_ : Nat), .slice a ws.length c] :: L) := by
   have G := (Hs.spl (B := cmoA ⟨((at_ : Nat) : Int), a, c, ws⟩)).2 (H8.sel 8 [3, 4, 0, 1, 2, 5, 6, 7])
   have G2 := G.spp (Bs := (M.cms ++ [(⟨((at_ : Nat) : Int), a, c, ws⟩ : Cmo)]).map cmoA) (by rw [List.map_append, List.map_singleton]; exact List.perm_append_comm (l₁ := [_]))
   have efl : (M.cms ++ [(⟨((at_ : Nat) : Int), a, c, ws⟩ : Cmo)]).flatMap cmoV = M.cms.flatMap cmoV ++ [.int .i64 (at_ : Nat), .slice a ws.length c] := by rw [List.flatMap_append]; rfl
   have eln : (M.cms ++ [(⟨((at_ : Nat) : Int), a, c, ws⟩ : Cmo)]).length = M.cms.length + 1 := by simp
   refine y68.2 ⟨_, lk2, ?_⟩
   unfold mgV
   dsimp only
   rw [efl, eln]
   exact G2.sel 7 [1, 3, 2, 0, 4, 5, 6]
  exact j3 hb2 (if_pos ⟨rfl, hw⟩) H9
 ·have e0' : e ≠ 0 := by simpa using e0'
  exact z394.J2_of (y13 rfl (j3 hb (if_neg (fun p => e0' p.1)) (H3.sel 3 [2, 0])))
theorem MAbort_hs {n : Int} (hb : Bd A) (H : Hs h (manA q A :: L)) (kk : ∀ h', Hs h' (manA q (A.abort n).1 :: L) → Q (.int .i64 (A.abort n).2) h') : SpecH PP z387 [.pointer (some ⟨q, 0, none⟩), .int .i64 n] h Q := by
 unfold AM.abort at kk
 refine z386.door (MOwner_hs H (fun e => ⟨_, _, rfl, y22 rfl ?_⟩) fun t e => ⟨_, _, rfl, y13 rfl (MClose_hs hb H fun h2 H2 => ⟨rfl, ?_⟩)⟩)
 ·rw [e] at kk; exact kk h H
 ·rw [e] at kk; exact kk h2 H2
theorem MDump_hs (hb : Bd A) (H : Hs h (manA q A :: L)) (kk : ∀ h' b d, Hs h' (arcsA b d (sdump A.state) :: manA q A :: L) → Q (.slice b (sdump A.state).length d) h') : SpecH PP z399 [.pointer (some ⟨q, 0, none⟩)] h Q := by
 obtain ⟨M, lk, H0⟩ := y68.1 H
 refine DumpR_hs lk hb H0 fun h' b d H' => kk h' b d ?_
 exact ((y68 (A := A) (q := q)).2 ⟨M, lk, (H'.sel 7 [1, 2, 3, 4, 5, 6, 0])⟩).m1
end Go.Proofs.YtglcanljknjcfaaGreatDoor

set_option maxRecDepth 20000
namespace Go.Proofs.YtglcanljknjcfaaGreatDoor
open Go Go.HW
variable {A : AM} {t t' : ATx} {k : Nat}
structure Ok (A : AM) (k : Nat) : Prop where
 ai : AI A
 first : A.first ≤ 1000000001
 sz : A.sz ≤ k
theorem sum_le_of {α : Type} {f : α → Nat} {x : α} : ∀ {l : List α}, x ∈ l → f x ≤ (l.map f).sum
 | y :: l, h => by
  rw [List.map_cons, List.sum_cons]
  rcases List.mem_cons.1 h with rfl | h
  ·omega
  ·have := sum_le_of (f := f) h; omega
theorem Ok.bd (h : Ok A k) (hk : k ≤ 2 ^ 19) : Bd A := by
 have hs := h.sz
 have hl := h.ai.len
 unfold AM.sz at hs
 refine ⟨h.first, by omega, by omega, fun t ht => ?_, by omega⟩
 have := sum_le_of (f := ATx.sz) ht
 have e : t.sz = t.st.length + t.rd.length + t.ls.length := rfl
 omega
theorem Ok.mono {k' : Nat} (h : Ok A k) (hk : k ≤ k') : Ok A k' := ⟨h.ai, h.first, Nat.le_trans h.sz hk⟩
theorem upd_sum {d : Nat} : ∀ {l : List ATx}, (l.map (·.n)).Nodup → t ∈ l → t'.n = t.n → t'.sz ≤ t.sz + d → ((l.map fun x => if x.n = t'.n then t' else x).map ATx.sz).sum ≤ (l.map ATx.sz).sum + d
 | x :: l, hn, ht, e, hs => by
  rw [List.map_cons, List.nodup_cons] at hn
  rw [List.map_cons, List.map_cons, List.sum_cons, List.map_cons, List.sum_cons]
  rcases List.mem_cons.1 ht with rfl | ht
  ·rw [if_pos e.symm]
   have : (l.map fun x => if x.n = t'.n then t' else x) = l := by
    conv => rhs; rw [← List.map_id l]
    refine List.map_congr_left fun x hx => if_neg fun q => hn.1 ?_
    rw [← e, ← q]; exact List.mem_map_of_mem (f := fun x : ATx => x.n) hx
   rw [this]; omega
  ·rw [if_neg fun q => hn.1 ?_]
   ·have := upd_sum hn.2 ht e hs; omega
   ·rw [q, e]; exact List.mem_map_of_mem (f := fun x : ATx => x.n) ht
theorem upd_sz {d : Nat} (ai : AI A) (ht : t ∈ A.txs) (e : t'.n = t.n) (hs : t'.sz ≤ t.sz + d) : (A.upd t').sz ≤ A.sz + d := by
 have := upd_sum ai.nd ht e hs
 unfold AM.sz
 show ((A.upd t').sta 0).length + _ + _ + ((A.txs.map fun x => if x.n = t'.n then t' else x).map ATx.sz).sum + A.next ≤ _
 have e1 : (A.upd t').sta 0 = A.sta 0 := rfl
 have e2 : (A.upd t').wrs = A.wrs := rfl
 rw [e1, e2]; omega
theorem wput_le1 (w : Wr) : ∀ l : List Wr, (wput l w).length ≤ l.length + 1
 | [] => by simp [wput]
 | x :: l => by
  unfold wput
  have := wput_le1 w l
  split
  ·simp
  ·split
   ·simp
   ·simp only [List.length_cons]; omega
theorem read_sz (t : ATx) (x : Key) : (t.read x).sz ≤ t.sz + 1 := by
 unfold ATx.read ATx.sz; split <;> simp <;> omega
theorem stage_sz (t : ATx) (w : Wr) : (t.stage w).sz ≤ t.sz + 1 := by
 have := wput_le1 w t.st
 unfold ATx.stage ATx.sz; simp only; omega
theorem Ok.upd {d : Nat} (h : Ok A k) (ht : t ∈ A.txs) (e : t'.n = t.n) (hs : t'.sz ≤ t.sz + d) (ai : AI (A.upd t')) : Ok (A.upd t') (k + d) := ⟨ai, h.first, by have := upd_sz h.ai ht e hs; have := h.sz; omega⟩
theorem Ok.begin (h : Ok A k) (tn : Nm) : Ok (A.begin tn).1 (k + 2) := by
 refine ⟨h.ai.begin tn, ?_, ?_⟩ <;> have h1 := h.first <;> have h2 := h.sz <;> unfold AM.begin <;> split
 ·exact h1
 ·split <;> exact h1
 ·show A.sz ≤ _; omega
 ·split
  ·show A.sz ≤ _; omega
  ·unfold AM.sz at *
   show (A.sta 0).length + _ + _ + ((A.txs ++ [_]).map ATx.sz).sum + (A.next + 1) ≤ _
   rw [List.map_append, List.sum_append]
   simp [ATx.sz]
   omega
theorem Ok.read (h : Ok A k) (n : Int) (ar en : Nm) : Ok (A.read n ar en).1 (k + 2) := by
 have ai := h.ai.read n ar en
 unfold AM.read at ai ⊢
 split
 ·exact h.mono (by omega)
 ·rename_i t e
  rw [e] at ai
  exact (h.upd (d := 1) (y69 (y112 e).1).1 (read_f _ _).1 (read_sz _ _) ai).mono (by omega)
theorem Ok.list (h : Ok A k) (n : Int) (ar : Nm) : Ok (A.list n ar).1 (k + 2) := by
 have ai := h.ai.list n ar
 unfold AM.list at ai ⊢
 split
 ·exact h.mono (by omega)
 ·rename_i t e
  rw [e] at ai
  exact (h.upd (d := 1) (t' := t.list ⟨t.tn, ar⟩) (y69 (y112 e).1).1 rfl (by unfold ATx.list ATx.sz; simp; omega) ai).mono (by omega)
theorem Ok.put (h : Ok A k) (n : Int) (ar en data : Nm) : Ok (A.put n ar en data).1 (k + 2) := by
 have ai := h.ai.put n ar en data
 unfold AM.put at ai ⊢
 split
 ·exact h.mono (by omega)
 ·rename_i t e
  rw [e] at ai
  dsimp only at ai
  split
  ·exact h.mono (by omega)
  ·rename_i hd
   rw [if_neg hd] at ai
   exact (h.upd (d := 1) (t' := t.stage ⟨t.key ar en, true, data⟩) (y69 (y112 e).1).1 rfl (stage_sz _ _) ai).mono (by omega)
theorem Ok.delete (h : Ok A k) (n : Int) (ar en : Nm) : Ok (A.delete n ar en).1 (k + 2) := by
 have ai := h.ai.delete n ar en
 unfold AM.delete at ai ⊢
 split
 ·exact h.mono (by omega)
 ·rename_i t e
  rw [e] at ai
  exact (h.upd (d := 1) (t' := t.stage ⟨t.key ar en, false, e0⟩) (y69 (y112 e).1).1 rfl (stage_sz _ _) ai).mono (by omega)
theorem Ok.add (h : Ok A k) (n : Int) (ar en data : Nm) : Ok (A.add n ar en data).1 (k + 2) := by
 have ai := h.ai.add n ar en data
 unfold AM.add at ai ⊢
 split
 ·exact h.mono (by omega)
 ·rename_i t e
  rw [e] at ai
  dsimp only at ai ⊢
  have h1 := read_f t (t.key ar en)
  have h2 := read_sz t (t.key ar en)
  split
  ·rename_i hd
   rw [if_pos hd] at ai
   exact (h.upd (d := 1) (y69 (y112 e).1).1 h1.1 h2 ai).mono (by omega)
  ·rename_i hd
   rw [if_neg hd] at ai
   exact (h.upd (d := 2) (t' := (t.read (t.key ar en)).stage ⟨t.key ar en, true, (A.look t (t.key ar en)).getD e0 ++ data⟩) (y69 (y112 e).1).1 h1.1 (by have := stage_sz (t.read (t.key ar en)) ⟨t.key ar en, true, (A.look t (t.key ar en)).getD e0 ++ data⟩; omega) ai).mono (by omega)
theorem close_sum (n : Int) : ∀ l : List ATx, ((l.filter fun t => decide ((t.n : Int) ≠ n)).map ATx.sz).sum ≤ (l.map ATx.sz).sum ∧ (∀ t ∈ l, (t.n : Int) = n → ((l.filter fun t => decide ((t.n : Int) ≠ n)).map ATx.sz).sum + t.sz ≤ (l.map ATx.sz).sum)
 | [] => ⟨Nat.le_refl _, nofun⟩
 | x :: l => by
  obtain ⟨h1, h2⟩ := close_sum n l
  rw [List.filter_cons, List.map_cons, List.sum_cons]
  by_cases e : (x.n : Int) = n
  ·rw [if_neg (by simpa using e)]
   refine ⟨by omega, fun t ht et => ?_⟩
   rcases List.mem_cons.1 ht with rfl | ht
   ·omega
   ·have := h2 t ht et; omega
  ·rw [if_pos (by simpa using e), List.map_cons, List.sum_cons]
   refine ⟨by omega, fun t ht et => ?_⟩
   rcases List.mem_cons.1 ht with rfl | ht
   ·exact absurd et e
   ·have := h2 t ht et; omega
theorem Ok.close (h : Ok A k) (n : Int) : Ok (A.close n) k := ⟨h.ai.close n, h.first, by
 have := (close_sum n A.txs).1
 have h2 := h.sz
 unfold AM.sz at *
 show (A.sta 0).length + _ + _ + ((A.txs.filter _).map ATx.sz).sum + A.next ≤ _
 unfold AM.close
 simp only at *
 omega⟩
theorem push_sz (ai : AI A) (ws : List Wr) : (A.push ws).sz = A.sz + ws.length + 1 := by
 unfold AM.sz
 have : (A.push ws).sta 0 = A.sta 0 := by
  unfold AM.push AM.sta; simp only; rw [List.getElem?_append_left (List.length_pos_iff.2 ai.ne)]
 rw [this]
 unfold AM.push
 simp
 omega
theorem check_ws (A : AM) (n : Int) : (A.check n).2.1 = [] ∨ ∃ t ∈ A.txs, A.find n = some t ∧ (A.check n).2.1 = t.st ∧ (A.check n).2.2 = 0 := by
 unfold AM.check
 split
 ·exact .inl rfl
 ·rename_i t e
  split
  ·exact .inl rfl
  split
  ·exact .inl rfl
  split
  ·exact .inl rfl
  ·exact .inr ⟨t, (y69 e).1, e, rfl, rfl⟩
theorem Ok.pushed (h : Ok A k) (n : Int) : Ok (A.push (A.check n).2.1) (2 * k + 1) := by
 have hs := h.sz
 rcases check_ws A n with e | ⟨t, ht, _, e, _⟩
 ·rw [e]
  exact ⟨h.ai.push (tn := e0) .nil nofun, h.first, by rw [push_sz h.ai]; simp; omega⟩
 ·have hti := h.ai.tx t ht
  rw [e]
  refine ⟨h.ai.push hti.rise hti.wok, h.first, ?_⟩
  rw [push_sz h.ai]
  have := sum_le_of (f := ATx.sz) ht
  have e2 : t.sz = t.st.length + t.rd.length + t.ls.length := rfl
  unfold AM.sz at hs ⊢
  omega
theorem Ok.commit (h : Ok A k) (n : Int) : Ok (A.commit n).1 (k + 2) := by
 have ai := h.ai.commit n
 refine ⟨ai, ?_, ?_⟩
 ·unfold AM.commit
  dsimp only
  split
  ·exact h.first
  ·split <;> exact h.first
 ·have hs := h.sz
  unfold AM.commit
  dsimp only
  split
  ·show A.sz ≤ _; omega
  ·split
   ·rename_i h1 h2
    obtain ⟨t, ht, ef, e, _⟩ := check_ok h.ai h2.1 h2.2
    rw [e]
    have hc := (close_sum n A.txs).2 t ht (y69 ef).2
    have e2 : t.sz = t.st.length + t.rd.length + t.ls.length := rfl
    have hp : ((A.push t.st).close n).sta 0 = A.sta 0 := by
     unfold AM.push AM.close AM.sta; simp only; rw [List.getElem?_append_left (List.length_pos_iff.2 h.ai.ne)]
    unfold AM.sz at hs ⊢
    rw [hp]
    unfold AM.close AM.push
    simp only [List.map_append, List.sum_append, List.map_singleton, List.sum_singleton, List.length_append, List.length_singleton]
    omega
   ·have := (h.close n).sz; show (A.close n).sz ≤ _; omega
theorem Ok.abort (h : Ok A k) (n : Int) : Ok (A.abort n).1 k := by
 unfold AM.abort
 split
 ·exact h.close n
 ·exact h
end Go.Proofs.YtglcanljknjcfaaGreatDoor

set_option maxRecDepth 20000
namespace Go.Proofs.YtglcanljknjcfaaGreatDoor
open Go Go.HW
variable {h : Heap} {L : List Assn} {Q : Value → Heap → Prop} {q : Nat} {A : AM}
theorem ok_new : Ok (anew 0 []) 1 := ⟨ai_new .nil nofun, by decide, by decide⟩
theorem link_new {s r : Nat} : LinkM (anew 0 []) ⟨s, CS.new.put 1 [], none, 0, [], r, [], 0⟩ := by
 refine ⟨ok_new.ai, CI.new.put [] (by decide), rfl, ⟨0, Nat.le_refl _, ?_, fun i _ hi k => ?_, rfl, nofun⟩, ?_, rfl, .refl _, nofun⟩
 ·show (CS.new.put 1 []).floor ≤ _; decide
 ·have hi : i < 1 := hi
  have : i = 0 := by omega
  subst this
  rfl
 ·show (CS.new.put 1 []).total ≤ _; decide
theorem emptyA_hs (H : Hs h L) (kk : ∀ h' q, Hs h' (manA q (anew 0 []) :: L) → Q (.pointer (some ⟨q, 0, none⟩)) h') : SpecH PP z261 [] h Q := by
 refine z260.door (txn_New.door (y13 rfl (y13 rfl (z282.door ?_))))
 dsimp only
 have H1 := H.new (t := y49) (cs := #[.string ⟨#[]⟩, .string ⟨#[]⟩, .slice none 0 0]) (xs := [.string ⟨#[]⟩, .string ⟨#[]⟩, .slice none 0 0])
 generalize Array.size h = l5 at H1 ⊢
 generalize Array.push h _ = h1 at H1 ⊢
 refine z282.L1_of (y13 rfl (z282.L1_X0 ⟨_, rfl, txn_New.J1_of (y13 rfl ?_)⟩))
 dsimp only
 have H2 := H1.tl.new (t := y36) (cs := #[.int .i64 0, .slice none 0 0]) (xs := [.int .i64 0, .slice none 0 0])
 generalize Array.size h1 = c6 at H2 ⊢
 generalize Array.push h1 _ = h2 at H2 ⊢
 refine H2.wrs (vs := [.int .i64 1, .slice none 0 0]) (fun h3 H3 => txn_New.L1_of (y13 rfl (txn_New.L1_X0 ?_))) (hv := by intro v hv; simp at hv; rcases hv with rfl | rfl <;> rfl)
 refine CNew_hs H3 fun h4 s H4 => ⟨_, rfl, ?_⟩
 dsimp only
 have H5 := (H4.fam_new (α := Int) (A := opA)).mp_new (κ := intK) (ν := otV)
 generalize Array.size h4 = r at H5 ⊢
 generalize Array.push h4 _ = h5 at H5 ⊢
 have H6 := H5.new (t := y24) (cs := #[.pointer (some ⟨s, 0, none⟩), .slice none 0 0, .map (some r), .int .i64 0]) (xs := [ptrV s, .slice none 0 0, .map (some r), .int .i64 0])
 generalize Array.size h5 = q at H6 ⊢
 generalize Array.push h5 _ = h6 at H6 ⊢
 refine ⟨_, H6.cell (off := 0) rfl, _, _, _, _, (H6.sel 5 [4, 0, 1, 2, 3]).rdc0, ?_⟩
 refine Put_hs (x := ⟨1, none, 0, 0, []⟩) (L := pt q y24 [ptrV s, .slice none 0 0, .map (some r), .int .i64 0] :: mp intK otV r [] :: fam opA ([] : List (Int × OT)) :: L) (by decide) ⟨fun h H => Rd.nil h _, rfl, by decide⟩ (H6.sel 5 [3, 0, 1, 2]) (fun hle => absurd hle (by decide)) fun hlt h7 H7 => ⟨_, rfl, y13 rfl ⟨_, _, rfl, kk h7 q ?_⟩⟩
 refine y68.2 ⟨_, link_new (s := s) (r := r), ?_⟩
 have G : Hs h7 (own none 0 0 y36 2 [] :: Sp [] :: storeA s (CS.new.put 1 []) :: pt q y24 [ptrV s, .slice none 0 0, .map (some r), .int .i64 0] :: mp intK otV r [] :: fam opA ([] : List (Int × OT)) :: L) :=
  (Hs.app (L := []).2 H7).own_nil y36 2
 exact G.sel 6 [3, 2, 0, 1, 4, 5]
end Go.Proofs.YtglcanljknjcfaaGreatDoor

set_option maxRecDepth 20000
namespace Go.Proofs.YtglcanljknjcfaaGreatDoor
open Go Go.HW
variable {h : Heap} {L : List Assn} {Q : Value → Heap → Prop}
theorem texts_hs {a b : OA} {n m c e : Nat} {l l' : List Nm} (ha : Rd h a (l.map Value.string)) (hb : Rd h b (l'.map Value.string)) (hn : l.length = n) (hm : l'.length = m) (hmax : n < 2 ^ 60) (k : l = l' → Q (.bool true) h) (he : l = l') : SpecH PP z247 [.slice a n c, .slice b m e] h Q := by
 subst he
 have : n = m := by omega
 subst this
 refine z246.door (y13 (by simp) ?_)
 have go : ∀ (q i : Nat), i + q = n → z246.L1 a n c b n e (i : Nat) (z246.K1 Q) h := by
  intro q
  induction q with
  | zero =>
   intro i hi
   exact z246.L1_of (y13 (decide_eq_false (by omega)) (z246.L1_X0 (k rfl)))
  | succ q ih =>
   intro i hi
   have hin : i < l.length := by omega
   refine z246.L1_of (y22 (decide_eq_true (by omega)) ?_)
   refine idx y181 (v := .string l[i]) ha (by omega) (by omega) (by rw [Int.toNat_natCast, List.getElem?_map, List.getElem?_eq_getElem hin]; rfl) fun t ht => ⟨_, ht, ?_⟩
   refine idx y181 (v := .string l[i]) hb (by omega) (by omega) (by rw [Int.toNat_natCast, List.getElem?_map, List.getElem?_eq_getElem hin]; rfl) fun t2 ht2 => ⟨_, ht2, y13 (by simp) ?_⟩
   dsimp only
   rw [show IntKind.i64.wrap ((i : Int) + 1) = ((i + 1 : Nat) : Int) by rw [y34 (by omega) (by omega)]; omega]
   exact ih (i + 1) (by omega)
 exact go n 0 (by omega)
abbrev cT : Nm := ⟨#[116]⟩
abbrev cX : Nm := ⟨#[120]⟩
abbrev cA : Nm := ⟨#[97]⟩
abbrev cB : Nm := ⟨#[98]⟩
abbrev c1 : Nm := ⟨#[111, 110, 101]⟩
abbrev c2 : Nm := ⟨#[116, 119, 111]⟩
abbrev c3 : Nm := ⟨#[33]⟩
abbrev c4 : Nm := ⟨#[111, 110, 101, 33]⟩
def ka : Key := ⟨cT, cX, cA⟩
def kb : Key := ⟨cT, cX, cB⟩
def b1 : AM := ⟨0, [[]], [], [⟨1, 0, cT, [], [], []⟩], 2⟩
def b2 : AM := ⟨0, [[]], [], [⟨1, 0, cT, [], [], []⟩, ⟨2, 0, cT, [], [], []⟩], 3⟩
def b3 : AM := ⟨0, [[]], [], [⟨1, 0, cT, [⟨ka, true, c1⟩], [], []⟩, ⟨2, 0, cT, [], [], []⟩], 3⟩
def b5 : AM := ⟨0, [[]], [], [⟨1, 0, cT, [⟨ka, true, c1⟩], [], []⟩, ⟨2, 0, cT, [], [ka], []⟩], 3⟩
def b6 : AM := ⟨0, [[], [(ka, c1)]], [[⟨ka, true, c1⟩]], [⟨2, 0, cT, [], [ka], []⟩], 3⟩
def b7 : AM := ⟨0, [[], [(ka, c1)]], [[⟨ka, true, c1⟩]], [⟨2, 0, cT, [⟨kb, true, c2⟩], [ka], []⟩], 3⟩
def b8 : AM := ⟨0, [[], [(ka, c1)]], [[⟨ka, true, c1⟩]], [], 3⟩
def b10 : AM := ⟨0, [[], [(ka, c1)]], [[⟨ka, true, c1⟩]], [⟨3, 1, cT, [], [], []⟩], 4⟩
def b11 : AM := ⟨0, [[], [(ka, c1)]], [[⟨ka, true, c1⟩]], [⟨3, 1, cT, [⟨ka, true, c4⟩], [ka], []⟩], 4⟩
def b12 : AM := ⟨0, [[], [(ka, c1)]], [[⟨ka, true, c1⟩]], [⟨3, 1, cT, [⟨ka, true, c4⟩], [ka], [⟨cT, cX⟩]⟩], 4⟩
def b13 : AM := ⟨0, [[], [(ka, c1)], [(ka, c4)]], [[⟨ka, true, c1⟩], [⟨ka, true, c4⟩]], [], 4⟩
theorem r1 : (anew 0 []).begin cT = (b1, 1, 0) := by kernel_rfl
theorem r2 : b1.begin cT = (b2, 2, 0) := by kernel_rfl
theorem r3 : b2.put 1 cX cA c1 = (b3, 0) := by kernel_rfl
theorem r4 : b3.read 1 cX cA = (b3, c1, 0) := by kernel_rfl
theorem r5 : b3.read 2 cX cA = (b5, e0, 144) := by kernel_rfl
theorem r6 : b5.commit 1 = (b6, 1, 0) := by kernel_rfl
theorem r7 : b6.put 2 cX cB c2 = (b7, 0) := by kernel_rfl
theorem r8 : b7.commit 2 = (b8, 0, 142) := by kernel_rfl
theorem r9 : b8.commit 2 = (b8, 0, 140) := by kernel_rfl
theorem r10 : b8.begin cT = (b10, 3, 0) := by kernel_rfl
theorem r11 : b10.add 3 cX cA c3 = (b11, 0) := by kernel_rfl
theorem r12 : b11.list 3 cX = (b12, [cA], 0) := by kernel_rfl
theorem r13 : b12.commit 3 = (b13, 2, 0) := by kernel_rfl
theorem r14 : suse b13.state cT = (4, 1) := by kernel_rfl
theorem o1 : Ok b1 3 := by have := ok_new.begin cT; rwa [r1] at this
theorem o2 : Ok b2 5 := by have := o1.begin cT; rwa [r2] at this
theorem o3 : Ok b3 7 := by have := o2.put 1 cX cA c1; rwa [r3] at this
theorem o5 : Ok b5 9 := by have := o3.read 2 cX cA; rwa [r5] at this
theorem o6 : Ok b6 11 := by have := o5.commit 1; rwa [r6] at this
theorem o7 : Ok b7 13 := by have := o6.put 2 cX cB c2; rwa [r7] at this
theorem o8 : Ok b8 15 := by have := o7.commit 2; rwa [r8] at this
theorem o10 : Ok b10 17 := by have := o8.begin cT; rwa [r10] at this
theorem o11 : Ok b11 19 := by have := o10.add 3 cX cA c3; rwa [r11] at this
theorem o12 : Ok b12 21 := by have := o11.list 3 cX; rwa [r12] at this
theorem o13 : Ok b13 23 := by have := o12.commit 3; rwa [r13] at this
theorem awake_hs (H : Hs h L) (k : ∀ h', Hs h' L → Q (.bool true) h') : SpecH PP z259 [] h Q := by
 refine z258.door (emptyA_hs H fun h1 q H1 => ⟨_, rfl, y13 rfl ?_⟩)
 refine MBegin_hs (ok_new.bd (by decide)) H1 fun h2 H2 => ⟨_, _, rfl, ?_⟩
 rw [r1] at H2 ⊢
 refine MBegin_hs (o1.bd (by decide)) H2 fun h3 H3 => ⟨_, _, rfl, ?_⟩
 rw [r2] at H3 ⊢
 refine MPut_hs H3 fun h4 H4 => ⟨_, rfl, ?_⟩
 rw [r3] at H4 ⊢
 refine MRead_hs (o3.bd (by decide)) H4 fun h5 H5 => ⟨_, _, rfl, ?_⟩
 rw [r4] at H5 ⊢
 refine MRead_hs (o3.bd (by decide)) H5 fun h6 H6 => ⟨_, _, rfl, ?_⟩
 rw [r5] at H6 ⊢
 refine y191 (o5.bd (by decide)) ((o5.pushed 1).bd (by decide)) H6 fun h7 H7 => ⟨_, _, rfl, ?_⟩
 rw [r6] at H7 ⊢
 refine MPut_hs H7 fun h8 H8 => ⟨_, rfl, ?_⟩
 rw [r7] at H8 ⊢
 refine y191 (o7.bd (by decide)) ((o7.pushed 2).bd (by decide)) H8 fun h9 H9 => ⟨_, _, rfl, ?_⟩
 rw [r8] at H9 ⊢
 refine y191 (o8.bd (by decide)) ((o8.pushed 2).bd (by decide)) H9 fun h10 H10 => ⟨_, _, rfl, ?_⟩
 rw [r9] at H10 ⊢
 refine y22 rfl <| y22 rfl <| y22 rfl <| y22 rfl <| y22 rfl <| y22 rfl <| y22 rfl <| y22 rfl <| y22 rfl <| y22 rfl <| y22 rfl <| y22 rfl <| z258.J1_of ?_
 refine MBegin_hs (o8.bd (by decide)) H10 fun h11 H11 => ⟨_, _, rfl, ?_⟩
 rw [r10] at H11 ⊢
 refine MAdd_hs (o10.bd (by decide)) (by decide) H11 fun h12 H12 => ⟨_, rfl, ?_⟩
 rw [r11] at H12 ⊢
 refine MList_hs (o11.bd (by decide)) H12 fun h13 a c hl H13 => ⟨_, _, _, _, rfl, ?_⟩
 rw [r12] at H13 ⊢
 refine y191 (o12.bd (by decide)) ((o12.pushed 3).bd (by decide)) H13.m1 fun h14 H14 => ⟨_, _, rfl, ?_⟩
 rw [r13] at H14 ⊢
 refine y22 rfl <| y22 rfl <| y22 rfl <| y22 rfl <| y22 rfl ?_
 have H15 := H14.new (t := y29) (cs := #[.string ⟨#[97]⟩]) (xs := [.string ⟨#[97]⟩])
 dsimp only
 generalize Array.size h14 = tb at H15 ⊢
 generalize Array.push h14 _ = h15 at H15 ⊢
 refine texts_hs (l := [cA]) (l' := [cA]) H15.m2.rd (H15.ptrd rfl) rfl rfl (by decide) (fun _ => ⟨_, rfl, ?_⟩) rfl
 refine y22 rfl <| y22 rfl <| y22 rfl ?_
 refine MUse_hs (o13.bd (by decide)) H15.m1 fun h16 H16 => ?_
 rw [r14]
 refine ⟨_, _, rfl, y22 rfl (MNow_hs (o13.bd (by decide)) H16 ⟨_, rfl, k h16 H16.tl.tl.tl⟩)⟩
end Go.Proofs.YtglcanljknjcfaaGreatDoor

set_option maxRecDepth 20000
namespace Go.Proofs.YtglcanljknjcfaaGreatDoor
open Go Go.HW
variable {h : Heap} {L : List Assn} {Q : Value → Heap → Prop}
end Go.Proofs.YtglcanljknjcfaaGreatDoor

set_option maxRecDepth 20000
namespace Go.Proofs.YtglcanljknjcfaaGreatDoor
open Go Go.HW
variable {h : Heap} {L : List Assn} {Q : Value → Heap → Prop} {q : Nat} {A : AM}
structure OpV where
 kd : Int
 n : Int
 te : Nm
 ar : Nm
 en : Nm
 da : Nm
def opV (o : OpV) : List Value := [.int .i64 o.kd, .int .i64 o.n, .string o.te, .string o.ar, .string o.en, .string o.da]
def OpWf (o : OpV) : Prop := o.da.size < 2 ^ 62
theorem opV_len (o : OpV) : (opV o).length = 6 := rfl
theorem opV_one (o : OpV) : ∀ v ∈ opV o, oneC v = true := by
 intro v hv; simp [opV] at hv; rcases hv with rfl | rfl | rfl | rfl | rfl | rfl <;> rfl
structure Ans where
 da : Nm
 ns : List Nm
 e : Int
def AM.act (A : AM) (n : Int) (o : OpV) : AM × Ans :=
 if o.kd = 2 then ((A.read n o.ar o.en).1, ⟨(A.read n o.ar o.en).2.1, [], (A.read n o.ar o.en).2.2⟩) else
 if o.kd = 3 then ((A.list n o.ar).1, ⟨e0, (A.list n o.ar).2.1, (A.list n o.ar).2.2⟩) else
 if o.kd = 4 then ((A.put n o.ar o.en o.da).1, ⟨e0, [], (A.put n o.ar o.en o.da).2⟩) else
 if o.kd = 5 then ((A.add n o.ar o.en o.da).1, ⟨e0, [], (A.add n o.ar o.en o.da).2⟩) else
 if o.kd = 6 then ((A.delete n o.ar o.en).1, ⟨e0, [], (A.delete n o.ar o.en).2⟩) else (A, ⟨e0, [], 0⟩)
def seenV (o : OpV) (d : Nm) (a : OA) (n c : Nat) (e : Int) : List Value := [.int .i64 o.kd, .int .i64 o.n, .string o.te, .string o.ar, .string o.en, .string o.da, .string d, .slice a n c, .int .i64 e]
theorem seenV_one (o : OpV) (d : Nm) (a : OA) (n c : Nat) (e : Int) : ∀ v ∈ seenV o d a n c e, oneC v = true := by
 intro v hv; simp [seenV] at hv; rcases hv with rfl | rfl | rfl | rfl | rfl | rfl | rfl | rfl | rfl <;> rfl
theorem act_hs {n : Int} {o : OpV} (hb : Bd A) (hd : OpWf o) (H : Hs h (manA q A :: L))
  (kk : ∀ h' a c, (A.act n o).2.ns.length < 2 ^ 40 → Hs h' (own a (A.act n o).2.ns.length c y29 1 ((A.act n o).2.ns.map Value.string) :: manA q (A.act n o).1 :: L) → Q (.agg (seenV o (A.act n o).2.da a (A.act n o).2.ns.length c (A.act n o).2.e).toArray) h') :
  SpecH PP z255 [.pointer (some ⟨q, 0, none⟩), .int .i64 n, .agg (opV o).toArray] h Q := by
 refine z254.door ?_
 dsimp only
 have H1 := H.new (t := y58) (cs := (opV o).toArray) (xs := opV o)
 generalize Array.size h = o5 at H1 ⊢
 have H1 : Hs (Array.push h (.cells #[.int .i64 o.kd, .int .i64 o.n, .string o.te, .string o.ar, .string o.en, .string o.da] y58 (0, 0))) (pt o5 y58 (opV o) :: manA q A :: L) := H1
 generalize Array.push h _ = h1 at H1 ⊢
 have H2 := H1.new (t := y35) (cs := #[.int .i64 0, .int .i64 0, .string ⟨#[]⟩, .string ⟨#[]⟩, .string ⟨#[]⟩, .string ⟨#[]⟩, .string ⟨#[]⟩, .slice none 0 0, .int .i64 0]) (xs := seenV ⟨0, 0, e0, e0, e0, e0⟩ e0 none 0 0 0)
 generalize Array.size h1 = t6 at H2 ⊢
 generalize Array.push h1 _ = h2 at H2 ⊢
 refine ⟨_, _, _, _, _, _, H2.m1.rdc0, ?_⟩
 have H3 := H2.new (t := y35) (cs := #[.int .i64 0, .int .i64 0, .string ⟨#[]⟩, .string ⟨#[]⟩, .string ⟨#[]⟩, .string ⟨#[]⟩, .string ⟨#[]⟩, .slice none 0 0, .int .i64 0]) (xs := seenV ⟨0, 0, e0, e0, e0, e0⟩ e0 none 0 0 0)
 generalize Array.size h2 = s7 at H3 ⊢
 generalize Array.push h2 _ = h3 at H3 ⊢
 refine H3.wrs (vs := seenV o e0 none 0 0 0) (hv := seenV_one _ _ _ _ _ _) fun h4 H4 => ⟨_, H4.m2.cell (off := 0) rfl, ?_⟩
 have HM := H4.sel 4 [3, 2, 0, 1]
 have CO := H4.m2
 have fin : ∀ {h : Heap} {d : Nm} {a : OA} {ns : List Nm} {c : Nat} {e : Int} {B : AM}, A.act n o = (B, ⟨d, ns, e⟩) → ns.length < 2 ^ 40 → Hs h (pt s7 y35 (seenV o d a ns.length c e) :: pt t6 y35 (seenV ⟨0, 0, e0, e0, e0, e0⟩ e0 none 0 0 0) :: own a ns.length c y29 1 (ns.map Value.string) :: manA q B :: L) → z254.J1 ⟨t6, 0, none⟩ ⟨s7, 0, none⟩ Q h := by
  intro h d a ns c e B ea hl H
  refine z254.J1_of ⟨_, _, _, _, _, _, _, _, _, _, _, H.rdc0, ?_⟩
  refine H.m1.wrs (vs := seenV o d a ns.length c e) (hv := seenV_one _ _ _ _ _ _) fun h2 H2 => ⟨_, _, _, _, _, _, _, _, _, _, _, H2.rdc0, ?_⟩
  rw [ea] at kk
  exact kk h2 a c hl H2.tl.tl
 have fin0 : ∀ {h : Heap} {d : Nm} {e : Int} {B : AM}, A.act n o = (B, ⟨d, [], e⟩) → Hs h (manA q B :: pt s7 y35 (seenV o d none 0 0 e) :: pt t6 y35 (seenV ⟨0, 0, e0, e0, e0, e0⟩ e0 none 0 0 0) :: L) → z254.J1 ⟨t6, 0, none⟩ ⟨s7, 0, none⟩ Q h := by
  intro h d e B ea H
  exact fin (a := none) (c := 0) ea (by decide) ((H.own_nil y29 1).sel 4 [2, 3, 0, 1])
 have HM : Hs h4 (manA q A :: pt s7 y35 (seenV o e0 none 0 0 0) :: pt t6 y35 (seenV ⟨0, 0, e0, e0, e0, e0⟩ e0 none 0 0 0) :: L) := H4.sel 4 [3, 0, 1]
 unfold AM.act at fin fin0
 refine (y16 _ _ _).2 ⟨fun e => ?_, fun e => ?_⟩
 ·have e : o.kd = 2 := by simpa using e
  refine ⟨_, CO.cell (off := 3) rfl, _, CO.cell (off := 4) rfl, MRead_hs hb HM fun h5 H5 => ⟨_, _, rfl, ?_⟩⟩
  exact H5.m1.sto (off := 6) (by simp [seenV]) fun h6 H6 => H6.sto (off := 8) (by simp [seenV]) fun h7 H7 => fin0 (by rw [if_pos e]) H7.m1
 have e2 : o.kd ≠ 2 := by simpa using e
 refine (y16 _ _ _).2 ⟨fun e => ?_, fun e => ?_⟩
 ·have e : o.kd = 3 := by simpa using e
  refine ⟨_, CO.cell (off := 3) rfl, MList_hs hb HM fun h5 a c hl H5 => ⟨_, _, _, _, rfl, ?_⟩⟩
  exact (H5.sel 4 [2, 3, 0, 1]).sto (off := 7) (by simp [seenV]) fun h6 H6 => H6.sto (off := 8) (by simp [seenV]) fun h7 H7 => fin (by rw [if_neg e2, if_pos e]) hl H7
 have e3 : o.kd ≠ 3 := by simpa using e
 refine (y16 _ _ _).2 ⟨fun e => ?_, fun e => ?_⟩
 ·have e : o.kd = 4 := by simpa using e
  refine ⟨_, CO.cell (off := 3) rfl, _, CO.cell (off := 4) rfl, _, CO.cell (off := 5) rfl, MPut_hs HM fun h5 H5 => ⟨_, rfl, ?_⟩⟩
  exact H5.m1.sto (off := 8) (by simp [seenV]) fun h7 H7 => fin0 (by rw [if_neg e2, if_neg e3, if_pos e]) H7.m1
 have e4 : o.kd ≠ 4 := by simpa using e
 refine (y16 _ _ _).2 ⟨fun e => ?_, fun e => ?_⟩
 ·have e : o.kd = 5 := by simpa using e
  refine ⟨_, CO.cell (off := 3) rfl, _, CO.cell (off := 4) rfl, _, CO.cell (off := 5) rfl, MAdd_hs hb hd HM fun h5 H5 => ⟨_, rfl, ?_⟩⟩
  exact H5.m1.sto (off := 8) (by simp [seenV]) fun h7 H7 => fin0 (by rw [if_neg e2, if_neg e3, if_neg e4, if_pos e]) H7.m1
 have e5 : o.kd ≠ 5 := by simpa using e
 refine (y16 _ _ _).2 ⟨fun e => ?_, fun e => ?_⟩
 ·have e : o.kd = 6 := by simpa using e
  refine ⟨_, CO.cell (off := 3) rfl, _, CO.cell (off := 4) rfl, MDelete_hs HM fun h5 H5 => ⟨_, rfl, ?_⟩⟩
  exact H5.m1.sto (off := 8) (by simp [seenV]) fun h7 H7 => fin0 (by rw [if_neg e2, if_neg e3, if_neg e4, if_neg e5, if_pos e]) H7.m1
 have e6 : o.kd ≠ 6 := by simpa using e
 exact fin0 (by rw [if_neg e2, if_neg e3, if_neg e4, if_neg e5, if_neg e6]) HM
theorem Ok.act {k : Nat} (h : Ok A k) (n : Int) (o : OpV) : Ok (A.act n o).1 (k + 2) := by
 unfold AM.act
 split
 ·exact h.read ..
 split
 ·exact h.list ..
 split
 ·exact h.put ..
 split
 ·exact h.add ..
 split
 ·exact h.delete ..
 ·exact h.mono (by omega)
theorem largeN_hs {a : OA} {n c : Nat} (hn : n < 2 ^ 62) (kk : Q (.bool (decide (n > 4096))) h) : SpecH PP z265 [.slice none 0 0, .slice a n c] h Q := by
 refine z264.door (z264.L1_of (y13 rfl (z264.L1_X0 ?_)))
 dsimp only
 rw [show IntKind.i64.wrap (((0 : Nat) : Int) + (n : Int)) = (n : Int) by rw [y34 (by omega) (by omega)]; omega]
 rwa [show decide ((n : Int) > 4096) = decide (n > 4096) from decide_eq_decide.2 (by omega)]
end Go.Proofs.YtglcanljknjcfaaGreatDoor

set_option maxRecDepth 20000
namespace Go.Proofs.YtglcanljknjcfaaGreatDoor
open Go Go.HW
variable {h : Heap} {L : List Assn} {Q : Value → Heap → Prop} {q : Nat} {A B : AM} {t t' : ATx}
theorem act_cases (A : AM) (n : Int) (o : OpV) : (A.act n o).1 = A ∨ ∃ t t', A.find n = some t ∧ t'.n = t.n ∧ t'.snap = t.snap ∧ t'.tn = t.tn ∧ (A.act n o).1 = A.upd t' := by
 unfold AM.act
 split
 ·show (A.read n o.ar o.en).1 = A ∨ ∃ t t', _ ∧ _ ∧ _ ∧ _ ∧ (A.read n o.ar o.en).1 = _
  unfold AM.read
  split
  ·exact .inl rfl
  ·rename_i t e
   obtain ⟨h1, h2, h3, _⟩ := read_f t (t.key o.ar o.en)
   exact .inr ⟨t, _, (y112 e).1, h1, h2, h3, rfl⟩
 split
 ·show (A.list n o.ar).1 = A ∨ ∃ t t', _ ∧ _ ∧ _ ∧ _ ∧ (A.list n o.ar).1 = _
  unfold AM.list
  split
  ·exact .inl rfl
  ·rename_i t e
   exact .inr ⟨t, t.list ⟨t.tn, o.ar⟩, (y112 e).1, rfl, rfl, rfl, rfl⟩
 split
 ·show (A.put n o.ar o.en o.da).1 = A ∨ ∃ t t', _ ∧ _ ∧ _ ∧ _ ∧ (A.put n o.ar o.en o.da).1 = _
  unfold AM.put
  split
  ·exact .inl rfl
  ·rename_i t e
   split
   ·exact .inl rfl
   ·exact .inr ⟨t, t.stage ⟨t.key o.ar o.en, true, o.da⟩, (y112 e).1, rfl, rfl, rfl, rfl⟩
 split
 ·show (A.add n o.ar o.en o.da).1 = A ∨ ∃ t t', _ ∧ _ ∧ _ ∧ _ ∧ (A.add n o.ar o.en o.da).1 = _
  unfold AM.add
  split
  ·exact .inl rfl
  ·rename_i t e
   obtain ⟨h1, h2, h3, _⟩ := read_f t (t.key o.ar o.en)
   dsimp only
   split
   ·exact .inr ⟨t, t.read (t.key o.ar o.en), (y112 e).1, h1, h2, h3, rfl⟩
   ·exact .inr ⟨t, (t.read (t.key o.ar o.en)).stage ⟨t.key o.ar o.en, true, (A.look t (t.key o.ar o.en)).getD e0 ++ o.da⟩, (y112 e).1, h1, h2, h3, rfl⟩
 split
 ·show (A.delete n o.ar o.en).1 = A ∨ ∃ t t', _ ∧ _ ∧ _ ∧ _ ∧ (A.delete n o.ar o.en).1 = _
  unfold AM.delete
  split
  ·exact .inl rfl
  ·rename_i t e
   exact .inr ⟨t, t.stage ⟨t.key o.ar o.en, false, e0⟩, (y112 e).1, rfl, rfl, rfl, rfl⟩
 ·exact .inl rfl
theorem find_upd (ai : AI (A.upd t')) {n : Int} (e : A.find n = some t) (hn : t'.n = t.n) : (A.upd t').find n = some t' := by
 obtain ⟨ht, en⟩ := y69 e
 have := ai.find (upd_mem ht hn)
 rwa [hn, en] at this
def Al (A : AM) (n : Int) (tn : Nm) : Prop := ∃ t, A.find n = some t ∧ t.tn = tn ∧ t.snap = A.wrs.length
theorem Al.act {n : Int} {tn : Nm} {k : Nat} (h : Al A n tn) (ok : Ok A k) (o : OpV) : Al (A.act n o).1 n tn := by
 obtain ⟨t, h1, h2, h3⟩ := h
 have ai := (ok.act n o).ai
 rcases act_cases A n o with e | ⟨u, u', e1, e2, e3, e4, e⟩
 ·rw [e]; exact ⟨t, h1, h2, h3⟩
 ·rw [e] at ai ⊢
  rw [h1] at e1
  obtain rfl := Option.some.inj e1
  exact ⟨u', find_upd ai h1 e2, e4.trans h2, e3.trans h3⟩
theorem begin_ok {tn : Nm} {k : Nat} (ok : Ok A k) (h : (A.begin tn).2.2 = 0) : shortB tn = true ∧ ¬ 256 ≤ A.txs.length := by
 unfold AM.begin at h
 split at h
 ·cases h
 ·rename_i hs
  split at h
  ·cases h
  ·rename_i hl; exact ⟨by simpa using hs, hl⟩
theorem begin_eq {tn : Nm} (hs : shortB tn = true) (hl : ¬ 256 ≤ A.txs.length) : A.begin tn = ({ A with txs := A.txs ++ [⟨A.next, A.sts.length - 1, tn, [], [], []⟩], next := A.next + 1 }, (A.next : Int), 0) := by
 unfold AM.begin; rw [if_neg (by rw [hs]; simp), if_neg hl]
theorem begin_find {tn : Nm} {k : Nat} (ok : Ok A k) (hs : shortB tn = true) (hl : ¬ 256 ≤ A.txs.length) : (A.begin tn).1.find (A.next : Int) = some ⟨A.next, A.sts.length - 1, tn, [], [], []⟩ := by
 have ai := (ok.begin tn).ai
 rw [begin_eq hs hl] at ai ⊢
 exact ai.find (t := ⟨A.next, A.sts.length - 1, tn, [], [], []⟩) (List.mem_append_right _ (List.mem_singleton.2 rfl))
theorem Al.conf {n : Int} {tn : Nm} (h : Al A n tn) : ∃ t, A.find n = some t ∧ t.tn = tn ∧ A.conf t = false := by
 obtain ⟨t, h1, h2, h3⟩ := h
 refine ⟨t, h1, h2, ?_⟩
 unfold AM.conf
 rw [h3, List.drop_length]; rfl
theorem Al.check {n : Int} {tn : Nm} (ai : AI A) (h : Al A n tn) : ∃ t ∈ A.txs, t.tn = tn ∧ (t.n : Int) = n ∧
  (((A.check n).2.2 = 0 ∧ (A.check n).1 = A.now + 1 ∧ (A.check n).2.1 = t.st ∧ t.st ≠ []) ∨ (((A.check n).2.2 = 0 ∨ (A.check n).2.2 = 145) ∧ (A.check n).1 = 0 ∧ (A.check n).2.1 = [])) := by
 obtain ⟨t, h1, h2, h3⟩ := h.conf
 refine ⟨t, (y69 h1).1, h2, (y69 h1).2, ?_⟩
 unfold AM.check
 rw [h1]
 dsimp only
 by_cases c1 : t.st = []
 ·rw [if_pos c1]; exact .inr ⟨.inl rfl, rfl, rfl⟩
 rw [if_neg c1, if_neg (by rw [h3]; simp)]
 split
 ·exact .inr ⟨.inr rfl, rfl, rfl⟩
 ·exact .inl ⟨rfl, rfl, rfl, c1⟩
theorem close_few {n : Int} (ai : AI A) (ht : t ∈ A.txs) (e : (t.n : Int) = n) : (A.close n).txs.length < A.txs.length := by
 unfold AM.close
 have h1 := List.length_filter_le (fun t : ATx => decide ((t.n : Int) ≠ n)) A.txs
 rcases Nat.lt_or_ge (A.txs.filter fun t : ATx => decide ((t.n : Int) ≠ n)).length A.txs.length with c | c
 ·exact c
 ·exfalso
  have := List.length_filter_eq_length_iff.1 (Nat.le_antisymm h1 c) t ht
  simp [e] at this
theorem push_state (ws : List Wr) : (A.push ws).state = sall A.state ws := by unfold AM.push; show (A.sts ++ [sall A.state ws]).getLast?.getD [] = _; rw [List.getLast?_concat]; rfl
end Go.Proofs.YtglcanljknjcfaaGreatDoor

set_option maxRecDepth 20000
namespace Go.Proofs.YtglcanljknjcfaaGreatDoor
open Go Go.HW
variable {h : Heap} {L : List Assn} {Q : Value → Heap → Prop} {q : Nat} {A B : AM} {t t' : ATx}
structure AC (A : AM) (tn : Nm) (C : Nat × List Wr × Int) (D : AM × Nat × Int) : Prop where
 at_ : D.2.1 = C.1
 e : D.2.2 = C.2.2
 e2 : C.2.2 = 0 ∨ C.2.2 = 145
 fin : (C.1 = 0 ∧ C.2.1 = [] ∧ D.1.now = A.now) ∨ (C.2.2 = 0 ∧ C.1 = A.now + 1 ∧ D.1.now = A.now + 1 ∧ D.1.state = sall A.state C.2.1)
 few : ¬ 256 ≤ D.1.txs.length
 rise : Rise C.2.1
 wok : ∀ w ∈ C.2.1, WOk tn w
theorem push_now (ai : AI A) (ws : List Wr) : (A.push ws).now = A.now + 1 := by
 have := List.length_pos_iff.2 ai.ne
 unfold AM.now AM.push; simp; omega
theorem Al.commit {n : Int} {tn : Nm} {k : Nat} (ok : Ok A k) (al : Al A n tn) : AC A tn (A.check n) (A.commit n) := by
 obtain ⟨t, ht, htn, en, hc⟩ := al.check ok.ai
 have hti := ok.ai.tx t ht
 have hfew := ok.ai.few
 have hcl := close_few ok.ai ht en
 have hcm : A.commit n = (if (A.check n).2.2 = 140 then (A, 0, 140) else ((if (A.check n).2.2 = 0 ∧ (A.check n).2.1 ≠ [] then A.push (A.check n).2.1 else A).close n, (A.check n).1, (A.check n).2.2)) := rfl
 rw [hcm]
 clear hcm
 generalize A.check n = C at *
 obtain ⟨at_, ws, e⟩ := C
 simp only at *
 rcases hc with ⟨rfl, rfl, rfl, hne⟩ | ⟨he, rfl, rfl⟩
 ·rw [if_neg (by decide), if_pos ⟨rfl, hne⟩]
  exact ⟨rfl, rfl, .inl rfl, .inr ⟨rfl, rfl, push_now ok.ai _, push_state t.st⟩, by show ¬ 256 ≤ (A.close n).txs.length; omega, hti.rise, by rw [← htn]; exact hti.wok⟩
 ·have e140 : e ≠ 140 := by rcases he with rfl | rfl <;> decide
  rw [if_neg e140, if_neg (by simp)]
  exact ⟨rfl, rfl, he, .inl ⟨rfl, rfl, rfl⟩, by show ¬ 256 ≤ (A.close n).txs.length; omega, .nil, fun _ hw => absurd hw List.not_mem_nil⟩
def Sn (A : AM) (n : Int) (tn : Nm) (S : Sta) : Prop := ∃ t, A.find n = some t ∧ t.st = [] ∧ t.tn = tn ∧ A.sta t.snap = S
theorem Sn.read {n : Int} {tn : Nm} {S : Sta} {k : Nat} (sn : Sn A n tn S) (ok : Ok A k) {w : Wr} (hw : WOk tn w) (hg : mget S w.k = if w.there then some w.data else none) :
  Sn (A.read n w.k.a w.k.e).1 n tn S ∧ (A.read n w.k.a w.k.e).2.1 = w.data ∧ (A.read n w.k.a w.k.e).2.2 = if w.there then 0 else 144 := by
 obtain ⟨t, h1, h2, h3, h4⟩ := sn
 have ai := (ok.read n w.k.a w.k.e).ai
 have hat : A.at n w.k.a (some w.k.e) = .inr t := by
  unfold AM.at
  rw [h1]
  exact if_neg (by rw [hw.a]; simp [hw.e])
 have hk : t.key w.k.a w.k.e = w.k := by
  unfold ATx.key; rw [h3, ← hw.t]
 have hlook : A.look t w.k = if w.there then some w.data else none := by
  unfold AM.look ATx.own
  rw [h2]
  show mget (A.sta t.snap) w.k = _
  rw [h4]; exact hg
 unfold AM.read at ai ⊢
 rw [hat] at ai ⊢
 dsimp only at ai ⊢
 rw [hk] at ai ⊢
 rw [hlook]
 obtain ⟨r1, r2, r3, r4, _⟩ := read_f t w.k
 refine ⟨⟨_, find_upd ai h1 r1, r4.trans h2, r3.trans h3, ?_⟩, ?_⟩
 ·rw [r2]; exact h4
 ·cases hth : w.there with
  | true => exact ⟨rfl, rfl⟩
  | false => exact ⟨(hw.z hth).symm, rfl⟩
end Go.Proofs.YtglcanljknjcfaaGreatDoor

set_option maxRecDepth 100000
namespace Go.Proofs.YtglcanljknjcfaaGreatDoor
open Go Go.HW
theorem open_op {W : World} {ecs : List Value} (hl : ecs.length = 6) (g : Dat PP W y58 ecs) : ∃ x, ecs = opV x ∧ OpWf x := by
 match ecs, hl with
 | [a, b, c, d, e, f1], _ =>
  have f := g.fields
  rw [FL_haversacklaw14_Op] at f
  obtain ⟨n, e1, _⟩ := (f (y63, 0, 1) (by simp)).i64 U_int
  obtain ⟨m, e2, _⟩ := (f (y63, 1, 1) (by simp)).i64 U_int
  obtain ⟨s3, e3, _⟩ := (f (y29, 2, 1) (by simp)).str y91
  obtain ⟨s4, e4, _⟩ := (f (y29, 3, 1) (by simp)).str y91
  obtain ⟨s5, e5, _⟩ := (f (y29, 4, 1) (by simp)).str y91
  obtain ⟨s6, e6, h6⟩ := (f (y29, 5, 1) (by simp)).str y91
  cases e1; cases e2; cases e3; cases e4; cases e5; cases e6
  exact ⟨⟨n, m, s3, s4, s5, s6⟩, rfl, by show s6.size < 2 ^ 62; omega⟩
def leafC : DataW Unit → List Value
 | .lit (.int k z) => [.int k z]
 | _ => []
def cellsD : DataW Unit → List Value
 | .agg l => l.flatMap fun
  | .agg m => m.flatMap leafC
  | d => leafC d
 | _ => []
def putC (g : Nat) (cs : List Value) (h : Heap) : Heap := h.modify g fun
 | .cells _ t f => .cells cs.toArray t f
 | o => o
end Go.Proofs.YtglcanljknjcfaaGreatDoor

set_option maxRecDepth 20000
namespace Go.Proofs.YtglcanljknjcfaaGreatDoor
open Go Go.HW
variable {A : AM} {t t' : ATx}
structure Loc where
 tn : Nm
 st : List Wr
 rd : List Key
 ls : List Bx
def ATx.loc (t : ATx) : Loc := ⟨t.tn, t.st, t.rd, t.ls⟩
def ATx.with (t : ATx) (l : Loc) : ATx := ⟨t.n, t.snap, l.tn, l.st, l.rd, l.ls⟩
def Loc.own (l : Loc) (k : Key) : Option Wr := wfind l.st k
def Loc.key (l : Loc) (o : OpV) : Key := ⟨l.tn, o.ar, o.en⟩
def Loc.read (l : Loc) (k : Key) : Loc := if (l.own k).isSome then l else { l with rd := l.rd ++ [k] }
def Loc.look (s : Sta) (l : Loc) (k : Key) : Option Nm := match l.own k with | some w => if w.there then some w.data else none | none => mget s k
def Loc.stage (l : Loc) (w : Wr) : Loc := { l with st := wput l.st w }
def Loc.meets (l : Loc) (k : Key) : Bool := l.rd.any (fun r => decide (r = k)) || l.ls.any (fun b => inBx b k)
def okn (o : OpV) : Bool := shortB o.ar && znameB o.en
def eA (e : Int) : Ans := ⟨e0, [], e⟩
def lact (s : Sta) (l : Loc) (o : OpV) : Loc × Ans :=
 if o.kd = 2 then (if okn o then (l.read (l.key o), ⟨(Loc.look s l (l.key o)).getD e0, [], if (Loc.look s l (l.key o)).isSome then 0 else 144⟩) else (l, eA 143)) else
 if o.kd = 3 then (if shortB o.ar then ({ l with ls := l.ls ++ [⟨l.tn, o.ar⟩] }, ⟨e0, snames (sall s l.st) ⟨l.tn, o.ar⟩, 0⟩) else (l, eA 143)) else
 if o.kd = 4 then (if okn o then (if 8192 < o.da.size then (l, eA 145) else (l.stage ⟨l.key o, true, o.da⟩, eA 0)) else (l, eA 143)) else
 if o.kd = 5 then (if okn o then (if 8192 < ((Loc.look s l (l.key o)).getD e0).size + o.da.size then (l.read (l.key o), eA 145) else ((l.read (l.key o)).stage ⟨l.key o, true, (Loc.look s l (l.key o)).getD e0 ++ o.da⟩, eA 0)) else (l, eA 143)) else
 if o.kd = 6 then (if okn o then (l.stage ⟨l.key o, false, e0⟩, eA 0) else (l, eA 143)) else (l, eA 0)
theorem upd_self (ai : AI A) (ht : t ∈ A.txs) : A.upd t = A := by
 have hn := ai.nd
 unfold AM.upd
 have : (A.txs.map fun x => if x.n = t.n then t else x) = A.txs := by
  conv => rhs; rw [← List.map_id A.txs]
  refine List.map_congr_left fun x hx => ?_
  split
  ·rename_i e
   have h1 := ai.find hx
   have h2 := ai.find ht
   rw [e, h2] at h1
   exact Option.some.inj h1
  ·rfl
 rw [this]
theorem at_eq {n : Int} {ar : Nm} {en : Option Nm} (e : A.find n = some t) : A.at n ar en = if shortB ar = false ∨ (en.map znameB) = some false then .inl 143 else .inr t := by unfold AM.at; rw [e]
theorem at_ok {n : Int} {o : OpV} (e : A.find n = some t) (h : okn o = true) : A.at n o.ar (some o.en) = .inr t := by
 unfold okn at h
 rw [Bool.and_eq_true] at h
 rw [at_eq e, if_neg (by rw [h.1]; simp [h.2])]
theorem at_no {n : Int} {o : OpV} (e : A.find n = some t) (h : okn o = false) : A.at n o.ar (some o.en) = .inl 143 := by
 unfold okn at h
 rw [at_eq e, if_pos]
 cases h1 : shortB o.ar with
 | false => exact .inl rfl
 | true => rw [h1, Bool.true_and] at h; exact .inr (by simp [h])
theorem read_with (t : ATx) (k : Key) : t.with (t.loc.read k) = t.read k := by
 unfold Loc.read ATx.read
 show t.with (if (t.own k).isSome then t.loc else _) = _
 split <;> rfl
theorem act_loc (ai : AI A) {n : Int} (e : A.find n = some t) (o : OpV) : A.act n o = (A.upd (t.with (lact (A.sta t.snap) t.loc o).1), (lact (A.sta t.snap) t.loc o).2) := by
 have ht := (y69 e).1
 have us : A.upd (t.with t.loc) = A := upd_self ai ht
 have hlook : ∀ k, A.look t k = Loc.look (A.sta t.snap) t.loc k := fun k => rfl
 have hkey : t.key o.ar o.en = t.loc.key o := rfl
 unfold AM.act lact
 by_cases k2 : o.kd = 2
 ·rw [if_pos k2, if_pos k2]
  unfold AM.read
  cases hk : okn o with
  | false => rw [at_no e hk]; simp only [Bool.false_eq_true, if_false]; rw [us]; rfl
  | true =>
   rw [at_ok e hk]
   simp only [if_true]
   rw [read_with, hkey, hlook]
   cases Loc.look (A.sta t.snap) t.loc (t.loc.key o) <;> rfl
 rw [if_neg k2, if_neg k2]
 by_cases k3 : o.kd = 3
 ·rw [if_pos k3, if_pos k3]
  unfold AM.list
  rw [at_eq e]
  cases hk : shortB o.ar with
  | false => simp; rw [us]; exact ⟨rfl, rfl⟩
  | true => simp; exact ⟨rfl, rfl⟩
 rw [if_neg k3, if_neg k3]
 by_cases k4 : o.kd = 4
 ·rw [if_pos k4, if_pos k4]
  unfold AM.put
  cases hk : okn o with
  | false => rw [at_no e hk]; simp only [Bool.false_eq_true, if_false]; rw [us]; rfl
  | true =>
   rw [at_ok e hk]
   simp only [if_true]
   split
   ·rw [us]; rfl
   ·rfl
 rw [if_neg k4, if_neg k4]
 by_cases k5 : o.kd = 5
 ·rw [if_pos k5, if_pos k5]
  unfold AM.add
  cases hk : okn o with
  | false => rw [at_no e hk]; simp only [Bool.false_eq_true, if_false]; rw [us]; rfl
  | true =>
   rw [at_ok e hk]
   simp only [if_true]
   rw [hkey, hlook]
   split
   ·rw [read_with]; rfl
   ·rw [← read_with]; rfl
 rw [if_neg k5, if_neg k5]
 by_cases k6 : o.kd = 6
 ·rw [if_pos k6, if_pos k6]
  unfold AM.delete
  cases hk : okn o with
  | false => rw [at_no e hk]; simp only [Bool.false_eq_true, if_false]; rw [us]; rfl
  | true =>
   rw [at_ok e hk]
   simp only [if_true]
   rfl
 rw [if_neg k6, if_neg k6, us]
 rfl
def Agr (s s' : Sta) (l : Loc) : Prop := ∀ k, l.meets k = true → mget s k = mget s' k
theorem mget_filter {s : Sta} {p : Key → Bool} (k : Key) : mget (s.filter fun x => p x.1) k = if p k then mget s k else none := by
 induction s with
 | nil => simp [y133]
 | cons x s ih =>
  rw [List.filter_cons, y50]
  by_cases e : x.1 = k
  ·cases hp : p x.1 with
   | true => rw [if_pos (by rfl), y50, if_pos e, if_pos e, if_pos (by rw [← e]; exact hp)]
   | false => rw [if_neg (by simp), ih, if_neg (by rw [← e, hp]; simp), if_neg (by rw [← e, hp]; simp)]
  ·rw [if_neg e]
   split
   ·rw [y50, if_neg e, ih]
   ·exact ih
theorem names_agr {s s' : Sta} {st : List Wr} {b : Bx} (hs : SRise s) (hs' : SRise s') (hr : Rise st) (h : ∀ k, inBx b k = true → mget s k = mget s' k) : snames (sall s st) b = snames (sall s' st) b := by
 unfold snames
 refine congrArg (List.map _) (sta_ext ((hs.all).sublist List.filter_sublist) ((hs'.all).sublist List.filter_sublist) fun k => ?_)
 rw [mget_filter (p := inBx b), mget_filter (p := inBx b)]
 split
 ·rename_i q
  rw [mget_sall hr hs, mget_sall hr hs']
  cases wfind st k with
  | some w => rfl
  | none => exact h k q
 ·rfl
theorem lact_more (s : Sta) (l : Loc) (o : OpV) : (∀ k, l.meets k = true → (lact s l o).1.meets k = true) ∧ (lact s l o).1.tn = l.tn ∧ (Rise l.st → Rise (lact s l o).1.st) ∧ (lact s l o).1.st.length ≤ l.st.length + 1 := by
 have hr : ∀ k', (∀ k, l.meets k = true → (l.read k').meets k = true) ∧ (l.read k').tn = l.tn ∧ (l.read k').st = l.st := by
  intro k'
  unfold Loc.read
  split
  ·exact ⟨fun _ h => h, rfl, rfl⟩
  ·refine ⟨fun k h => ?_, rfl, rfl⟩
   unfold Loc.meets at *
   simp only [List.any_append, Bool.or_eq_true] at *
   exact h.imp .inl id
 have same : ∀ e : Int, (∀ k, l.meets k = true → (l, eA e).1.meets k = true) ∧ (l, eA e).1.tn = l.tn ∧ (Rise l.st → Rise (l, eA e).1.st) ∧ (l, eA e).1.st.length ≤ l.st.length + 1 := fun e => ⟨fun _ h => h, rfl, id, Nat.le_succ _⟩
 have stg : ∀ w : Wr, (∀ k, l.meets k = true → (l.stage w).meets k = true) ∧ (l.stage w).tn = l.tn ∧ (Rise l.st → Rise (l.stage w).st) ∧ (l.stage w).st.length ≤ l.st.length + 1 := fun w => ⟨fun _ h => h, rfl, fun h => h.put w, wput_le1 w l.st⟩
 unfold lact
 split
 ·split
  ·obtain ⟨h1, h2, h3⟩ := hr (l.key o)
   exact ⟨h1, h2, fun h => by rw [h3]; exact h, by rw [h3]; omega⟩
  ·exact same _
 split
 ·split
  ·refine ⟨fun k h => ?_, rfl, id, Nat.le_succ _⟩
   unfold Loc.meets at *
   simp only [List.any_append, Bool.or_eq_true] at *
   exact h.imp id .inl
  ·exact same _
 split
 ·split
  ·split
   ·exact same _
   ·exact stg _
  ·exact same _
 split
 ·split
  ·obtain ⟨h1, h2, h3⟩ := hr (l.key o)
   split
   ·exact ⟨h1, h2, fun h => by rw [h3]; exact h, by rw [h3]; omega⟩
   ·refine ⟨h1, h2, fun h => ?_, ?_⟩
    ·show Rise (wput (l.read (l.key o)).st _); rw [h3]; exact h.put _
    ·show (wput (l.read (l.key o)).st _).length ≤ _; rw [h3]; exact wput_le1 _ _
  ·exact same _
 split
 ·split
  ·exact stg _
  ·exact same _
 ·exact same _
theorem look_agr {s s' : Sta} {l : Loc} {k : Key} (h : Agr s s' (l.read k)) : Loc.look s l k = Loc.look s' l k := by
 unfold Loc.look
 cases e : l.own k with
 | some w => rfl
 | none =>
  refine h k ?_
  unfold Loc.read
  rw [if_neg (by rw [e]; simp)]
  unfold Loc.meets
  simp
theorem lact_agr {s s' : Sta} {l : Loc} {o : OpV} (hs : SRise s) (hs' : SRise s') (hr : Rise l.st) (h : Agr s s' (lact s l o).1) : lact s' l o = lact s l o := by
 unfold lact at h ⊢
 by_cases k2 : o.kd = 2
 ·rw [if_pos k2] at h ⊢
  rw [if_pos k2]
  split
  ·rename_i q
   rw [if_pos q] at h
   rw [look_agr h]
  ·rfl
 rw [if_neg k2] at h ⊢
 rw [if_neg k2]
 by_cases k3 : o.kd = 3
 ·rw [if_pos k3] at h ⊢
  rw [if_pos k3]
  split
  ·rename_i q
   rw [if_pos q] at h
   rw [names_agr hs hs' hr fun k hk => h k ?_]
   unfold Loc.meets
   simp [hk]
  ·rfl
 rw [if_neg k3] at h ⊢
 rw [if_neg k3]
 by_cases k4 : o.kd = 4
 ·rw [if_pos k4, if_pos k4]
 rw [if_neg k4] at h ⊢
 rw [if_neg k4]
 by_cases k5 : o.kd = 5
 ·rw [if_pos k5] at h ⊢
  rw [if_pos k5]
  split
  ·rename_i q
   rw [if_pos q] at h
   have : Agr s s' (l.read (l.key o)) := by
    by_cases c : 8192 < ((Loc.look s l (l.key o)).getD e0).size + o.da.size
    ·rw [if_pos c] at h; exact h
    ·rw [if_neg c] at h; exact h
   rw [look_agr this]
  ·rfl
 rw [if_neg k5, if_neg k5]
def Rp (s : Sta) : Loc → List (OpV × Ans) → Loc → Prop
 | l, [], l' => l = l'
 | l, x :: r, l' => (lact s l x.1).2 = x.2 ∧ Rp s (lact s l x.1).1 r l'
theorem Rp.snoc {s : Sta} {o : OpV} : ∀ {r : List (OpV × Ans)} {l l1 : Loc}, Rp s l r l1 → Rp s l (r ++ [(o, (lact s l1 o).2)]) (lact s l1 o).1
 | [], l, l1, h => by
  have h : l = l1 := h
  subst h; exact ⟨rfl, rfl⟩
 | x :: r, l, l1, h => ⟨h.1, Rp.snoc h.2⟩
theorem Rp.more {s : Sta} : ∀ {r : List (OpV × Ans)} {l l1 : Loc}, Rp s l r l1 → (∀ k, l.meets k = true → l1.meets k = true) ∧ l1.tn = l.tn ∧ (Rise l.st → Rise l1.st) ∧ l1.st.length ≤ l.st.length + r.length
 | [], l, l1, h => by
  have h : l = l1 := h
  subst h; exact ⟨fun _ h => h, rfl, id, by simp⟩
 | x :: r, l, l1, h => by
  obtain ⟨a1, a2, a3, a4⟩ := lact_more s l x.1
  obtain ⟨b1, b2, b3, b4⟩ := Rp.more h.2
  exact ⟨fun k q => b1 k (a1 k q), b2.trans a2, fun q => b3 (a3 q), by simp; omega⟩
theorem Rp.agr {s s' : Sta} (hs : SRise s) (hs' : SRise s') : ∀ {r : List (OpV × Ans)} {l l1 : Loc}, Rise l.st → Rp s l r l1 → Agr s s' l1 → Rp s' l r l1
 | [], l, l1, _, h, _ => h
 | x :: r, l, l1, hr, h, ha => by
  have e : lact s' l x.1 = lact s l x.1 := lact_agr hs hs' hr fun k q => ha k ((Rp.more h.2).1 k q)
  refine ⟨by rw [e]; exact h.1, ?_⟩
  rw [e]
  exact Rp.agr hs hs' ((lact_more s l x.1).2.2.1 hr) h.2 ha
end Go.Proofs.YtglcanljknjcfaaGreatDoor

set_option maxRecDepth 20000
namespace Go.Proofs.YtglcanljknjcfaaGreatDoor
open Go Go.HW
variable {A B : AM} {t t' : ATx}
structure Sm where
 o : OpV
 a : Ans
 p : OA
 c : Nat
structure Lf where
 b : Nat
 n : Nat
 snap : Nat
 at_ : Nat
 wrote : Bool
 done : Bool
 tn : Nm
 sa : OA
 sc : Nat
 sm : List Sm
def Lf.seen (x : Lf) : List (OpV × Ans) := x.sm.map fun s => (s.o, s.a)
def fresh (tn : Nm) : Loc := ⟨tn, [], [], []⟩
structure SI (A : AM) : Prop where
 first : A.first = 0
 nil : A.sta 0 = []
 step : ∀ i, i < A.wrs.length → A.sta (i + 1) = sall (A.sta i) ((A.wrs[i]?).getD [])
theorem SI.same (h : SI A) (h1 : B.first = A.first) (h2 : B.sts = A.sts) (h3 : B.wrs = A.wrs) : SI B := by
 have e : ∀ i, B.sta i = A.sta i := fun i => by unfold AM.sta; rw [h2]
 exact ⟨h1.trans h.first, by rw [e]; exact h.nil, fun i hi => by rw [e, e, h3]; rw [h3] at hi; exact h.step i hi⟩
theorem push_old (ws : List Wr) {i : Nat} (hi : i < A.sts.length) : (A.push ws).sta i = A.sta i := by
 unfold AM.push AM.sta; simp only; rw [List.getElem?_append_left hi]
theorem push_new (ws : List Wr) : (A.push ws).sta A.sts.length = sall A.state ws := by
 unfold AM.push AM.sta; simp only; rw [List.getElem?_append_right (Nat.le_refl _), Nat.sub_self]; rfl
theorem SI.push (h : SI A) (ai : AI A) (ws : List Wr) : SI (A.push ws) := by
 have hl := ai.len
 refine ⟨h.first, by rw [push_old ws (by omega)]; exact h.nil, fun i hi => ?_⟩
 have hi' : i < A.wrs.length + 1 := by unfold AM.push at hi; simpa using hi
 have ew : (A.push ws).wrs = A.wrs ++ [ws] := rfl
 rw [ew]
 rcases Nat.lt_or_ge i A.wrs.length with c | c
 ·rw [push_old ws (by omega), push_old ws (by omega), List.getElem?_append_left c]; exact h.step i c
 ·have : i = A.wrs.length := by omega
  subst this
  rw [List.getElem?_append_right (Nat.le_refl _), Nat.sub_self, push_old ws (i := A.wrs.length) (by omega), hl, push_new, y157 ai]
  rfl
theorem conf_agr (ai : AI A) (si : SI A) (ht : t ∈ A.txs) (hc : A.conf t = false) : Agr (A.sta t.snap) A.state t.loc := by
 intro k hk
 have hsn := (ai.tx t ht).snap
 have hl := ai.len
 have key : ∀ d, t.snap + d ≤ A.wrs.length → mget (A.sta t.snap) k = mget (A.sta (t.snap + d)) k := by
  intro d
  induction d with
  | zero => intro _; rfl
  | succ d ih =>
   intro hd
   have hlt : t.snap + d < A.wrs.length := by omega
   rw [ih (by omega), ← Nat.add_assoc, si.step _ hlt, List.getElem?_eq_getElem hlt, Option.getD_some]
   have hm := List.getElem_mem hlt
   rw [mget_sall (ai.wr _ hm).1 (ai.sta _)]
   cases e : wfind A.wrs[t.snap + d] k with
   | none => rfl
   | some w =>
    exfalso
    have hw : w ∈ A.wrs[t.snap + d] := List.mem_of_find?_eq_some e
    have hwk : w.k = k := by simpa using List.find?_some e
    unfold AM.conf at hc
    rw [List.any_eq_false] at hc
    refine hc A.wrs[t.snap + d] ?_ (List.any_eq_true.2 ⟨w, hw, ?_⟩)
    ·have : A.wrs[t.snap + d] = (A.wrs.drop t.snap)[d]'(by rw [List.length_drop]; omega) := by rw [List.getElem_drop]
     rw [this]; exact List.getElem_mem _
    ·rw [hwk]; exact hk
 rw [y157 ai]
 have := key (A.wrs.length - t.snap) (by omega)
 rwa [show t.snap + (A.wrs.length - t.snap) = A.wrs.length by omega] at this
def Undone (A : AM) (x : Lf) : Prop := ∃ t, A.find (x.n : Int) = some t ∧ t.tn = x.tn ∧ t.snap = x.snap ∧ Rp (A.sta x.snap) (fresh x.tn) x.seen t.loc
def Ordd (A : AM) (x : Lf) : Prop := x.done = true ∧ shortB x.tn = true ∧ ∃ l', Rise l'.st ∧
 ((x.wrote = true ∧ ∃ k, x.at_ = k + 1 ∧ k + 1 < A.sts.length ∧ Rp (A.sta k) (fresh x.tn) x.seen l' ∧ l'.st ≠ [] ∧ fitsB (A.sta k) x.tn l'.st = true ∧ A.sta (k + 1) = sall (A.sta k) l'.st) ∨
  (x.wrote = false ∧ x.at_ < A.sts.length ∧ Rp (A.sta x.at_) (fresh x.tn) x.seen l' ∧ l'.st = []))
theorem Undone.keep {x : Lf} (h : Undone A x) (ai : AI A) (ai' : AI B) (hm : ∀ t ∈ A.txs, t.n = x.n → t ∈ B.txs) (hs : ∀ i, i < A.sts.length → B.sta i = A.sta i) : Undone B x := by
 obtain ⟨t, h1, h2, h3, h4⟩ := h
 obtain ⟨ht, en⟩ := y69 h1
 have en : t.n = x.n := by omega
 refine ⟨t, ?_, h2, h3, ?_⟩
 ·have := ai'.find (hm t ht en); rwa [en] at this
 ·rw [hs _ (by rw [← h3]; exact (ai.tx t ht).snap)]; exact h4
theorem Ordd.keep {x : Lf} (h : Ordd A x) (hl : A.sts.length ≤ B.sts.length) (hs : ∀ i, i < A.sts.length → B.sta i = A.sta i) : Ordd B x := by
 obtain ⟨h1, h2, l', hr, h3⟩ := h
 refine ⟨h1, h2, l', hr, ?_⟩
 rcases h3 with ⟨a, k, b, c, d, e, f, g⟩ | ⟨a, b, c, d⟩
 ·exact .inl ⟨a, k, b, by omega, by rw [hs k (by omega)]; exact d, e, by rw [hs k (by omega)]; exact f, by rw [hs _ c, hs k (by omega)]; exact g⟩
 ·exact .inr ⟨a, by omega, by rw [hs _ b]; exact c, d⟩
structure IV (A : AM) (lv od : List Lf) (c : Nat) : Prop where
 ok : Ok A (1 + 2 * c)
 si : SI A
 un : ∀ x ∈ lv, x.done = false → Undone A x
 nlt : ∀ x ∈ lv, x.n < A.next
 nd : (lv.map (·.n)).Nodup
 mem : ∀ x ∈ od, x ∈ lv ∧ Ordd A x
 at_ : (od.filter (·.wrote)).map (·.at_) = List.range' 1 (A.sts.length - 1)
 len : lv.length ≤ c ∧ od.length ≤ c
 seen : ∀ x ∈ lv, x.sm.length ≤ c
section
variable {lv od : List Lf} {c : Nat} {x x' y : Lf} {i : Nat}
theorem IV.mono {c' : Nat} (h : IV A lv od c) (hc : c ≤ c') : IV A lv od c' := ⟨h.ok.mono (by omega), h.si, h.un, h.nlt, h.nd, h.mem, h.at_, ⟨Nat.le_trans h.len.1 hc, Nat.le_trans h.len.2 hc⟩, fun x hx => Nat.le_trans (h.seen x hx) hc⟩
theorem iv_new : IV (anew 0 []) [] [] 0 := ⟨ok_new, ⟨rfl, rfl, nofun⟩, nofun, nofun, .nil, nofun, rfl, ⟨Nat.le_refl _, Nat.le_refl _⟩, nofun⟩
theorem set_mem (nd : (lv.map (·.n)).Nodup) (hi : lv[i]? = some x) (hy : y ∈ lv.set i x') : y = x' ∨ (y ∈ lv ∧ y.n ≠ x.n) := by
 obtain ⟨j, hj, rfl⟩ := List.getElem_of_mem hy
 rw [List.length_set] at hj
 rw [List.getElem_set]
 split
 ·exact .inl rfl
 ·rename_i ne
  refine .inr ⟨List.getElem_mem hj, fun e => ne ?_⟩
  obtain ⟨hi', ei⟩ := List.getElem?_eq_some_iff.1 hi
  have := (List.nodup_iff_pairwise_ne.1 nd)
  rw [List.pairwise_map] at this
  rw [List.pairwise_iff_getElem] at this
  rcases Nat.lt_trichotomy i j with c | c | c
  ·exact absurd (by rw [ei]; exact e.symm) (this i j hi' hj c)
  ·exact c
  ·exact absurd (by rw [ei]; exact e) (this j i hj hi' c)
theorem mem_set (hi : lv[i]? = some x) (hy : y ∈ lv) (hne : y ≠ x) : y ∈ lv.set i x' := by
 obtain ⟨j, hj, rfl⟩ := List.getElem_of_mem hy
 obtain ⟨hi', ei⟩ := List.getElem?_eq_some_iff.1 hi
 have : i ≠ j := fun e => hne (by subst e; exact ei)
 have h2 : (lv.set i x')[j]'(by rw [List.length_set]; exact hj) = lv[j] := by rw [List.getElem_set, if_neg this]
 rw [← h2]; exact List.getElem_mem _
theorem set_ns (hi : lv[i]? = some x) (hn : x'.n = x.n) : (lv.set i x').map (·.n) = lv.map (·.n) := by
 refine List.ext_getElem? fun j => ?_
 rw [List.getElem?_map, List.getElem?_set, List.getElem?_map]
 split
 ·rename_i e
  subst e
  rw [if_pos (List.getElem?_eq_some_iff.1 hi).1, hi]
  simp [hn]
 ·rfl
theorem IV.set {B : AM} (h : IV A lv od c) (hi : lv[i]? = some x) (hd : x.done = false) (hn : x'.n = x.n) (okB : Ok B (1 + 2 * c + 2)) (siB : SI B)
  (hm : ∀ t ∈ A.txs, t.n ≠ x.n → t ∈ B.txs) (hl : A.sts.length ≤ B.sts.length) (hs : ∀ i, i < A.sts.length → B.sta i = A.sta i) (hx : A.next ≤ B.next) (hu : x'.done = false → Undone B x') (hsm : x'.sm.length ≤ c + 1)
  {od' : List Lf} (hod : ∀ y ∈ od', y ∈ od ∨ (y = x' ∧ Ordd B x')) (hat : (od'.filter (·.wrote)).map (·.at_) = List.range' 1 (B.sts.length - 1)) (hol : od'.length ≤ c + 1) : IV B (lv.set i x') od' (c + 1) := by
 have hxm : x ∈ lv := List.mem_of_getElem? hi
 refine ⟨okB.mono (by omega), siB, fun y hy hyd => ?_, fun y hy => ?_, by rw [set_ns hi hn]; exact h.nd, fun y hy => ?_, hat, ⟨by rw [List.length_set]; have := h.len.1; omega, hol⟩, fun y hy => ?_⟩
 ·rcases set_mem h.nd hi hy with rfl | ⟨hy1, hy2⟩
  ·exact hu hyd
  ·exact (h.un y hy1 hyd).keep h.ok.ai okB.ai (fun t ht e => hm t ht (by rw [e]; exact hy2)) hs
 ·rcases set_mem h.nd hi hy with rfl | ⟨hy1, _⟩
  ·rw [hn]; exact Nat.lt_of_lt_of_le (h.nlt x hxm) hx
  ·exact Nat.lt_of_lt_of_le (h.nlt y hy1) hx
 ·rcases hod y hy with q | ⟨rfl, q⟩
  ·obtain ⟨h1, h2⟩ := h.mem y q
   refine ⟨mem_set hi h1 fun e => ?_, h2.keep hl hs⟩
   have := h2.1
   rw [e, hd] at this; cases this
  ·refine ⟨?_, q⟩
   have hi' := (List.getElem?_eq_some_iff.1 hi).1
   exact List.mem_of_getElem? (i := i) (by rw [List.getElem?_set, if_pos rfl, if_pos hi'])
 ·rcases set_mem h.nd hi hy with rfl | ⟨hy1, _⟩
  ·exact hsm
  ·exact Nat.le_succ_of_le (h.seen y hy1)
theorem IV.begin (h : IV A lv od c) {tn : Nm} (h0 : (A.begin tn).2.2 = 0) (b : Nat) : IV (A.begin tn).1 (lv ++ [⟨b, A.next, A.now, 0, false, false, tn, none, 0, []⟩]) od (c + 1) ∧ (A.begin tn).2.1 = (A.next : Int) := by
 obtain ⟨b1, b2⟩ := begin_ok h.ok h0
 have hok := h.ok.begin tn
 have hf := begin_find h.ok b1 b2
 rw [begin_eq b1 b2] at hok hf ⊢
 have ai := hok.ai
 have hfi := h.si.first
 have hpos : 0 < A.sts.length := List.length_pos_iff.2 h.ok.ai.ne
 refine ⟨⟨hok.mono (by omega), h.si.same rfl rfl rfl, fun x hx hd => ?_, fun x hx => ?_, ?_, fun x hx => ?_, h.at_, ⟨by have := h.len.1; simp; omega, by have := h.len.2; omega⟩, fun x hx => ?_⟩, rfl⟩
 ·rcases List.mem_append.1 hx with q | q
  ·exact (h.un x q hd).keep h.ok.ai ai (fun t ht _ => List.mem_append_left _ ht) fun _ _ => rfl
  ·rw [List.mem_singleton.1 q]
   refine ⟨_, hf, rfl, by show A.sts.length - 1 = A.now; unfold AM.now; omega, rfl⟩
 ·rcases List.mem_append.1 hx with q | q
  ·have := h.nlt x q; show x.n < A.next + 1; omega
  ·rw [List.mem_singleton.1 q]; exact Nat.lt_succ_self _
 ·rw [List.map_append, List.nodup_append]
  refine ⟨h.nd, by simp, fun a ha b' hb => ?_⟩
  obtain ⟨x, hx, rfl⟩ := List.mem_map.1 ha
  have := h.nlt x hx
  simp at hb; omega
 ·obtain ⟨h1, h2⟩ := h.mem x hx
  exact ⟨List.mem_append_left _ h1, h2.keep (Nat.le_refl _) fun _ _ => rfl⟩
 ·rcases List.mem_append.1 hx with q | q
  ·exact Nat.le_succ_of_le (h.seen x q)
  ·rw [List.mem_singleton.1 q]; exact Nat.zero_le _
theorem begin_no {tn : Nm} (h : (A.begin tn).2.2 ≠ 0) : (A.begin tn).1 = A := by
 unfold AM.begin at h ⊢
 split
 ·rfl
 ·rename_i h1
  split
  ·rfl
  ·rename_i h2; rw [if_neg h1, if_neg h2] at h; exact absurd rfl h
theorem IV.act (h : IV A lv od c) (hi : lv[i]? = some x) (hd : x.done = false) (o : OpV) (p : OA) (k : Nat) (sa : OA) (sc : Nat) :
  IV (A.act (x.n : Int) o).1 (lv.set i { x with sa := sa, sc := sc, sm := x.sm ++ [⟨o, (A.act (x.n : Int) o).2, p, k⟩] }) od (c + 1) := by
 have hxm : x ∈ lv := List.mem_of_getElem? hi
 obtain ⟨t, h1, h2, h3, h4⟩ := h.un x hxm hd
 obtain ⟨ht, en⟩ := y69 h1
 have en : t.n = x.n := by omega
 have hok := h.ok.act (x.n : Int) o
 have hal := act_loc h.ok.ai h1 o
 rw [hal] at hok ⊢
 have hf := find_upd hok.ai h1 rfl
 refine h.set (x' := { x with sa := sa, sc := sc, sm := x.sm ++ [⟨o, (lact (A.sta t.snap) t.loc o).2, p, k⟩] }) hi hd rfl hok (h.si.same rfl rfl rfl) (fun t' ht' ne => ?_) (Nat.le_refl _) (fun _ _ => rfl) (Nat.le_refl _) (fun _ => ?_) ?_ (fun y hy => .inl hy) h.at_ (Nat.le_succ_of_le h.len.2)
 ·exact List.mem_map.2 ⟨t', ht', if_neg (by show t'.n ≠ t.n; omega)⟩
 ·refine ⟨_, hf, ?_, h3, ?_⟩
  ·exact ((lact_more (A.sta t.snap) t.loc o).2.1).trans h2
  ·show Rp (A.sta x.snap) (fresh x.tn) (List.map _ (x.sm ++ [_])) _
   rw [List.map_append, ← h3]
   rw [← h3] at h4
   exact h4.snoc
 ·show (x.sm ++ [_]).length ≤ c + 1
  have := h.seen x hxm
  simp; omega
theorem commit_cases (A : AM) {n : Int} (e : A.find n = some t) :
  (t.st = [] ∧ A.commit n = (A.close n, 0, 0)) ∨ (∃ e', e' ≠ 0 ∧ A.commit n = (A.close n, 0, e')) ∨ (t.st ≠ [] ∧ A.conf t = false ∧ fitsB A.state t.tn t.st = true ∧ A.commit n = ((A.push t.st).close n, A.now + 1, 0)) := by
 unfold AM.commit AM.check
 rw [e]
 dsimp only
 by_cases c1 : t.st = []
 ·rw [if_pos c1]; exact .inl ⟨c1, rfl⟩
 rw [if_neg c1]
 by_cases c2 : A.conf t = true
 ·rw [if_pos c2]; exact .inr (.inl ⟨142, by decide, rfl⟩)
 rw [if_neg c2]
 by_cases c3 : fitsB A.state t.tn t.st = false
 ·rw [if_pos c3]; exact .inr (.inl ⟨145, by decide, rfl⟩)
 rw [if_neg c3]
 refine .inr (.inr ⟨c1, by simpa using c2, by simpa using c3, ?_⟩)
 simp [c1]
theorem IV.gone (h : IV A lv od c) (hi : lv[i]? = some x) (hd : x.done = false) (hn : x'.n = x.n) (hd' : x'.done = true) (hsm : x'.sm = x.sm) : IV (A.close (x.n : Int)) (lv.set i x') od (c + 1) := by
 have hxm : x ∈ lv := List.mem_of_getElem? hi
 refine h.set hi hd hn ((h.ok.close _).mono (by omega)) (h.si.same rfl rfl rfl) (fun t ht ne => List.mem_filter.2 ⟨ht, by simp; omega⟩) (Nat.le_refl _) (fun _ _ => rfl) (Nat.le_refl _) (fun q => by rw [hd'] at q; cases q) ?_ (fun y hy => .inl hy) h.at_ (Nat.le_succ_of_le h.len.2)
 rw [hsm]; exact Nat.le_succ_of_le (h.seen x hxm)
theorem IV.commit (h : IV A lv od c) (hi : lv[i]? = some x) (hd : x.done = false) (hn : x'.n = x.n) (hd' : x'.done = true) (hsm : x'.sm = x.sm) (htn : x'.tn = x.tn)
  (hw : x'.wrote = decide (0 < (A.commit (x.n : Int)).2.1)) (ha : x'.at_ = if x'.wrote then (A.commit (x.n : Int)).2.1 else x.snap) :
  IV (A.commit (x.n : Int)).1 (lv.set i x') (if (A.commit (x.n : Int)).2.2 = 0 then od ++ [x'] else od) (c + 1) := by
 have hxm : x ∈ lv := List.mem_of_getElem? hi
 obtain ⟨t, h1, h2, h3, h4⟩ := h.un x hxm hd
 obtain ⟨ht, en⟩ := y69 h1
 have en : t.n = x.n := by omega
 have hti := h.ok.ai.tx t ht
 have hol := h.len.2
 have hse : x'.seen = x.seen := by unfold Lf.seen; rw [hsm]
 have hsh : shortB x'.tn = true := by rw [htn, ← h2]; exact hti.tn
 have hsl : x'.sm.length ≤ c + 1 := by rw [hsm]; exact Nat.le_succ_of_le (h.seen x hxm)
 rcases commit_cases A h1 with ⟨c1, e⟩ | ⟨e', ne, e⟩ | ⟨c1, c2, c3, e⟩
 ·rw [e] at hw ha ⊢
  have hw : x'.wrote = false := hw
  rw [hw] at ha
  have ha : x'.at_ = x.snap := ha
  rw [if_pos rfl]
  refine h.set hi hd hn ((h.ok.close _).mono (by omega)) (h.si.same rfl rfl rfl) (fun t ht ne => List.mem_filter.2 ⟨ht, by simp; omega⟩) (Nat.le_refl _) (fun _ _ => rfl) (Nat.le_refl _) (fun q => by rw [hd'] at q; cases q) hsl (fun y hy => ?_) ?_ (by simp; omega)
  ·rcases List.mem_append.1 hy with q | q
   ·exact .inl q
   ·have := List.mem_singleton.1 q
    subst this
    refine .inr ⟨rfl, hd', hsh, t.loc, hti.rise, .inr ⟨hw, ?_, ?_, c1⟩⟩
    ·rw [ha, ← h3]; exact hti.snap
    ·rw [ha, hse, htn]; exact h4
  ·rw [List.filter_append, List.filter_cons_of_neg (by rw [hw]; simp)]
   simp only [List.filter_nil, List.append_nil]
   exact h.at_
 ·rw [e]
  rw [if_neg ne]
  exact h.gone hi hd hn hd' hsm
 ·have hok := h.ok.commit (x.n : Int)
  rw [e] at hw ha hok ⊢
  have hw : x'.wrote = true := by rw [hw]; simp
  rw [hw] at ha
  have ha : x'.at_ = A.now + 1 := ha
  rw [if_pos rfl]
  have hl := h.ok.ai.len
  have hnw : A.now = A.wrs.length := by have := h.si.first; unfold AM.now; omega
  have hpl : ((A.push t.st).close (x.n : Int)).sts.length = A.sts.length + 1 := by unfold AM.push AM.close; simp
  have hold : ∀ i, i < A.sts.length → ((A.push t.st).close (x.n : Int)).sta i = A.sta i := fun i hi => push_old t.st hi
  refine h.set hi hd hn (hok.mono (by omega)) ((h.si.push h.ok.ai t.st).same rfl rfl rfl) (fun t ht ne => List.mem_filter.2 ⟨ht, by simp; omega⟩) (by rw [hpl]; omega) hold (Nat.le_refl _) (fun q => by rw [hd'] at q; cases q) hsl (fun y hy => ?_) ?_ (by simp; omega)
  ·rcases List.mem_append.1 hy with q | q
   ·exact .inl q
   ·have := List.mem_singleton.1 q
    subst this
    refine .inr ⟨rfl, hd', hsh, t.loc, hti.rise, .inl ⟨hw, A.wrs.length, by rw [ha, hnw], by rw [hpl]; omega, ?_, c1, ?_, ?_⟩⟩
    ·rw [hold _ (by omega), hse, htn, ← y157 h.ok.ai]
     rw [← h3] at h4
     exact h4.agr (h.ok.ai.sta _) h.ok.ai.state .nil (conf_agr h.ok.ai h.si ht c2)
    ·rw [hold _ (by omega), htn, ← h2, ← y157 h.ok.ai]; exact c3
    ·show (A.push t.st).sta (A.wrs.length + 1) = sall ((A.push t.st).sta A.wrs.length) t.st
     rw [push_old t.st (i := A.wrs.length) (by omega), hl, push_new, y157 h.ok.ai]
  ·rw [List.filter_append, List.filter_cons_of_pos (by rw [hw]), List.filter_nil, List.map_append, h.at_, hpl, List.map_singleton, ha, hnw]
   have : A.sts.length + 1 - 1 = (A.sts.length - 1) + 1 := by omega
   rw [this, List.range'_1_concat]
   congr 2
   omega
end
end Go.Proofs.YtglcanljknjcfaaGreatDoor

set_option maxRecDepth 20000
namespace Go.Proofs.YtglcanljknjcfaaGreatDoor
open Go Go.HW
variable {h : Heap} {L : List Assn} {Q : Value → Heap → Prop} {q : Nat} {A B : AM} {t t' : ATx}
def smV (s : Sm) : List Value := seenV s.o s.a.da s.p s.a.ns.length s.c s.a.e
def smA (s : Sm) : Assn := own s.p s.a.ns.length s.c y29 1 (s.a.ns.map Value.string)
def lfV (x : Lf) : List Value := [.int .i64 x.n, .int .i64 x.snap, .int .i64 x.at_, .bool x.wrote, .bool x.done, .string x.tn, .slice x.sa x.sm.length x.sc]
def lifeA (x : Lf) : Assn := fun m => Sp [pt x.b y81 (lfV x), own x.sa x.sm.length x.sc y35 9 (x.sm.flatMap smV), Sp (x.sm.map smA)] m
theorem smV_len (s : Sm) : (smV s).length = 9 := rfl
theorem y135 {x : Lf} : Hs h (lifeA x :: L) ↔ Hs h (pt x.b y81 (lfV x) :: own x.sa x.sm.length x.sc y35 9 (x.sm.flatMap smV) :: Sp (x.sm.map smA) :: L) := by
 unfold lifeA; exact Hs.app
structure OB (B : AM) (c : Nat) : Prop where
 ai : AI B
 first : B.first = 0
 txs : B.txs = []
 nil : B.sta 0 = []
 sum : (B.wrs.map (·.length)).sum ≤ 16384 * B.wrs.length
 sts : B.sts.length ≤ 32768
 next : B.next ≤ c
def agB (B : AM) (l : Loc) : AM := ⟨B.first, B.sts, B.wrs, [⟨B.next, B.sts.length - 1, l.tn, l.st, l.rd, l.ls⟩], B.next + 1⟩
def agE (B : AM) (l : Loc) : AM := if l.st = [] then ⟨B.first, B.sts, B.wrs, [], B.next + 1⟩ else ⟨B.first, B.sts ++ [sall B.state l.st], B.wrs ++ [l.st], [], B.next + 1⟩
section
variable {c : Nat} {l : Loc}
theorem OB.begin {tn : Nm} (ob : OB B c) (hs : shortB tn = true) : B.begin tn = (agB B (fresh tn), (B.next : Int), 0) := by
 rw [begin_eq hs (by rw [ob.txs]; simp)]
 unfold agB fresh
 rw [ob.txs]; rfl
theorem agB_find (B : AM) (l : Loc) : (agB B l).find (B.next : Int) = some ⟨B.next, B.sts.length - 1, l.tn, l.st, l.rd, l.ls⟩ := by
 unfold agB AM.find; simp
theorem agB_act (ai : AI (agB B l)) (aiB : AI B) (o : OpV) : (agB B l).act (B.next : Int) o = (agB B (lact B.state l o).1, (lact B.state l o).2) := by
 rw [act_loc ai (agB_find B l)]
 have e : (agB B l).sta (B.sts.length - 1) = B.state := by
  rw [y157 aiB]
  have := aiB.len
  show B.sta (B.sts.length - 1) = _
  rw [← this]; rfl
 show ((agB B l).upd (ATx.with _ (lact ((agB B l).sta (B.sts.length - 1)) l o).1), (lact ((agB B l).sta (B.sts.length - 1)) l o).2) = _
 rw [e]
 refine Prod.ext ?_ rfl
 unfold AM.upd agB ATx.with
 simp
theorem agB_commit (ai : AI B) (h : l.st = [] ∨ fitsB B.state l.tn l.st = true) : (agB B l).commit (B.next : Int) = (agE B l, if l.st = [] then 0 else B.now + 1, 0) := by
 have hcf : (agB B l).conf ⟨B.next, B.sts.length - 1, l.tn, l.st, l.rd, l.ls⟩ = false := by
  unfold AM.conf
  have := ai.len
  show ((B.wrs.drop (B.sts.length - 1)).any _) = false
  rw [List.drop_eq_nil_of_le (by omega)]; rfl
 have hck : (agB B l).check (B.next : Int) = if l.st = [] then (0, [], 0) else (B.now + 1, l.st, 0) := by
  unfold AM.check
  rw [agB_find]
  dsimp only
  by_cases hst : l.st = []
  ·rw [if_pos hst, if_pos hst]
  ·have hf : (agB B l).state = B.state := rfl
   rw [if_neg hst, if_neg hst, if_neg (by rw [hcf]; simp), hf, if_neg (by rw [h.resolve_left hst]; simp)]
   rfl
 unfold AM.commit agE
 rw [hck]
 by_cases hst : l.st = []
 ·rw [if_pos hst, if_pos hst, if_pos hst]
  dsimp only
  rw [if_neg (by decide), if_neg (by simp)]
  unfold AM.close agB; simp
 ·rw [if_neg hst, if_neg hst, if_neg hst]
  dsimp only
  rw [if_neg (by decide), if_pos ⟨rfl, hst⟩]
  unfold AM.close AM.push agB; simp
  rfl
theorem agB_bd (ob : OB B c) (hc : c < 2 ^ 39) (hl : l.st.length ≤ 16384) : Bd (agB B l) := by
 have h1 := ob.first; have h2 := ob.sum; have h3 := ob.sts; have h4 := ob.next; have h5 := ob.ai.len
 refine ⟨by show B.first ≤ _; omega, by show B.sts.length ≤ _; omega, ?_, fun t ht => ?_, by show B.next + 1 ≤ _; omega⟩
 ·show (B.sta 0).length + (B.wrs.map (·.length)).sum ≤ _
  rw [ob.nil]
  have : 16384 * B.wrs.length ≤ 16384 * 32767 := Nat.mul_le_mul_left _ (by omega)
  simp; omega
 ·rw [List.mem_singleton.1 ht]; show l.st.length ≤ _; omega
theorem agB_bd2 (ob : OB B c) (hc : c < 2 ^ 39) (hl : l.st.length ≤ 16384) {ws : List Wr} (hw : ws.length ≤ 16384) : Bd ((agB B l).push ws) := by
 have hb := agB_bd ob hc hl
 have h2 := ob.sum; have h3 := ob.sts; have h5 := ob.ai.len
 have hpos : 0 < B.sts.length := by omega
 refine ⟨hb.first, ?_, ?_, hb.tx, hb.next⟩
 ·show (B.sts ++ [sall (agB B l).state ws]).length ≤ _; simp; omega
 ·have e : ((agB B l).push ws).sta 0 = [] := by
   rw [push_old ws (A := agB B l) (i := 0) hpos]; exact ob.nil
  rw [e]
  show 0 + ((B.wrs ++ [ws]).map (·.length)).sum ≤ _
  have : 16384 * B.wrs.length ≤ 16384 * 32767 := Nat.mul_le_mul_left _ (by omega)
  simp; omega
theorem OB.bd (ob : OB B c) (hc : c < 2 ^ 39) : Bd B := by
 have h1 := ob.first; have h2 := ob.sum; have h3 := ob.sts; have h4 := ob.next; have h5 := ob.ai.len
 refine ⟨by omega, by omega, ?_, fun t ht => (by rw [ob.txs] at ht; cases ht), by omega⟩
 rw [ob.nil]
 have : 16384 * B.wrs.length ≤ 16384 * 32767 := Nat.mul_le_mul_left _ (by omega)
 simp; omega
theorem OB.again (ob : OB B c) (ai : AI (agE B l)) (hl : l.st.length ≤ 16384) (hs : l.st ≠ [] → B.sts.length ≤ 32767) : OB (agE B l) (c + 1) := by
 have h2 := ob.sum; have h3 := ob.sts; have h4 := ob.next; have h5 := ob.ai.len
 have hpos : 0 < B.sts.length := by omega
 unfold agE at ai ⊢
 by_cases e : l.st = []
 ·rw [if_pos e] at ai ⊢
  exact ⟨ai, ob.first, rfl, ob.nil, h2, h3, by show B.next + 1 ≤ _; omega⟩
 ·rw [if_neg e] at ai ⊢
  refine ⟨ai, ob.first, rfl, ?_, ?_, ?_, by show B.next + 1 ≤ _; omega⟩
  ·exact (push_old (A := B) l.st hpos).trans ob.nil
  ·show ((B.wrs ++ [l.st]).map (·.length)).sum ≤ 16384 * (B.wrs ++ [l.st]).length
   simp; omega
  ·show (B.sts ++ [sall B.state l.st]).length ≤ _; have := hs e; simp; omega
end
theorem again_hs {x : Lf} {c : Nat} {l' : Loc} (ob : OB B c) (hc : c < 2 ^ 38) (hs : shortB x.tn = true) (hrp : Rp B.state (fresh x.tn) x.seen l') (hlen : x.sm.length ≤ 16384) (hop : ∀ s ∈ x.sm, OpWf s.o)
  (hw : (x.wrote = true ∧ l'.st ≠ [] ∧ fitsB B.state x.tn l'.st = true) ∨ (x.wrote = false ∧ l'.st = []))
  (H : Hs h (manA q B :: lifeA x :: L)) (kk : ∀ h', AI (agE B l') → Hs h' (manA q (agE B l') :: lifeA x :: L) → Q (.bool true) h') :
  SpecH PP z257 [.pointer (some ⟨q, 0, none⟩), .pointer (some ⟨x.b, 0, none⟩)] h Q := by
 have hstl : l'.st.length ≤ 16384 := by
  have := hrp.more.2.2.2
  unfold Lf.seen at this
  rw [List.length_map] at this
  have e : (fresh x.tn).st.length = 0 := rfl
  omega
 have htn : l'.tn = x.tn := hrp.more.2.1
 have H0 := (y135.1 H.m1).sel 4 [3, 0, 1, 2]
 refine z256.door ⟨_, H0.m1.cell (off := 5) rfl, MBegin_hs (ob.bd (by omega)) H0 fun h1 H1 => ⟨_, _, rfl, ?_⟩⟩
 have aib := ob.ai.begin x.tn
 rw [ob.begin hs] at H1 aib ⊢
 refine y13 rfl ?_
 have go : ∀ (r i : Nat) {h : Heap} {l : Loc}, i + r = x.sm.length → l.tn = x.tn → l.st.length ≤ i → AI (agB B l) → Rp B.state l ((x.sm.drop i).map fun s => (s.o, s.a)) l' → Hs h (manA q (agB B l) :: pt x.b y81 (lfV x) :: own x.sa x.sm.length x.sc y35 9 (x.sm.flatMap smV) :: Sp (x.sm.map smA) :: L) →
   z256.L1 (some ⟨q, 0, none⟩) (some ⟨x.b, 0, none⟩) (B.next : Nat) (i : Nat) (z256.K1 Q) h := by
  intro r
  induction r with
  | zero =>
   intro i h l hi htl hll ai hr H
   rw [List.drop_eq_nil_of_le (by omega)] at hr
   have hr : l = l' := hr
   subst hr
   refine z256.L1_of ⟨_, _, _, H.m1.cell (off := 6) rfl, y13 (by simp; omega) (z256.L1_X0 ?_)⟩
   have hcm := agB_commit (l := l) ob.ai (hw.elim (fun p => .inr (by rw [htl]; exact p.2.2)) fun p => .inl p.2)
   have aic := ai.commit (B.next : Int)
   rw [hcm] at aic
   have hck : (((agB B l).check (B.next : Int)).2.1).length ≤ 16384 := by
    rcases check_ws (agB B l) (B.next : Int) with e | ⟨t, _, ef, e, _⟩
    ·rw [e]; simp
    ·rw [agB_find] at ef
     rw [e, ← Option.some.inj ef]; exact hstl
   refine y191 (agB_bd ob (by omega) hstl) (agB_bd2 ob (by omega) hstl hck) H fun h2 H2 => ⟨_, _, rfl, ?_⟩
   rw [hcm] at H2 ⊢
   refine y22 rfl ⟨_, H2.m1.cell (off := 3) rfl, ?_⟩
   have fin := kk h2 aic (Hs.m1 (y135.2 (H2.sel 4 [1, 2, 3, 0])))
   have eb : (decide ((((if l.st = [] then 0 else B.now + 1 : Nat)) : Int) > 0) == x.wrote) = true := by
    rcases hw with ⟨w1, w2, _⟩ | ⟨w1, w2⟩
    ·rw [w1, if_neg w2, decide_eq_true (by omega)]; rfl
    ·rw [w1, if_pos w2]; rfl
   dsimp only
   rw [eb]
   exact fin
  | succ r ih =>
   intro i h l hi htl hll ai hr H
   have hil : i < x.sm.length := by omega
   rw [List.drop_eq_getElem_cons hil, List.map_cons] at hr
   obtain ⟨s, hse⟩ : ∃ s, s = x.sm[i] := ⟨_, rfl⟩
   rw [← hse] at hr
   obtain ⟨hans, hr⟩ := hr
   have hact := agB_act ai ob.ai s.o
   have ai2 := (Ok.act ⟨ai, by have := ob.first; show B.first ≤ _; omega, Nat.le_refl _⟩ (B.next : Int) s.o).ai
   rw [hact] at ai2
   have hgi : x.sm[((i : Nat) : Int).toNat]? = some s := by rw [Int.toNat_natCast, List.getElem?_eq_getElem hil, hse]
   have rdS : ∀ {h : Heap} {M : List Assn} {R : Addr → Heap → Prop}, Hs h (own x.sa x.sm.length x.sc y35 9 (x.sm.flatMap smV) :: M) → (∀ t, rdCells h t 0 (smV s) → R t h) → hwp PP (Instr.indexAt y72 (.slice x.sa x.sm.length x.sc) (.int .i64 (i : Nat))) (fun u h1 => ∃ t, u = .pointer (some t) ∧ R t h1) h := fun H K =>
    idxf y188 (φ := smV) (x := s) H.rd smV_len (by decide) (by omega) (by omega) hgi K
   refine z256.L1_of ⟨_, _, _, H.m1.cell (off := 6) rfl, y22 (by simp; omega) ⟨_, _, _, H.m1.cell (off := 6) rfl, rdS H.m2 fun t1 ht1 => ?_⟩⟩
   obtain ⟨g1, g2, g3, g4, g5, g6, _⟩ := ht1
   refine ⟨_, _, _, _, _, _, ⟨g1, g2, g3, g4, g5, g6, trivial⟩, ?_⟩
   refine act_hs (o := s.o) (agB_bd ob (by omega) (by omega)) (hop s (hse ▸ List.getElem_mem hil)) H fun h2 na nc hnl H2 => ⟨_, _, _, _, _, _, _, _, _, _, _, rfl, ?_⟩
   rw [hact] at H2 hnl ⊢
   simp only at hans
   rw [hans] at H2 hnl ⊢
   have H3 := H2.new (t := y35) (cs := #[.int .i64 0, .int .i64 0, .string ⟨#[]⟩, .string ⟨#[]⟩, .string ⟨#[]⟩, .string ⟨#[]⟩, .string ⟨#[]⟩, .slice none 0 0, .int .i64 0]) (xs := seenV ⟨0, 0, e0, e0, e0, e0⟩ e0 none 0 0 0)
   dsimp only
   generalize Array.size h2 = s8 at H3 ⊢
   generalize Array.push h2 _ = h3 at H3 ⊢
   refine H3.wrs (vs := seenV s.o s.a.da na s.a.ns.length nc s.a.e) (hv := seenV_one _ _ _ _ _ _) fun h4 H4 => ⟨_, H4.cell (off := 8) rfl, _, _, _, H4.m3.cell (off := 6) rfl, rdS H4.m4 fun t2 ht2 => ⟨_, ht2.2.2.2.2.2.2.2.2.1, y13 (by simp) ?_⟩⟩
   refine ⟨_, H4.cell (off := 6) rfl, _, _, _, H4.m3.cell (off := 6) rfl, rdS H4.m4 fun t3 ht3 => ⟨_, ht3.2.2.2.2.2.2.1, y13 (by simp) ?_⟩⟩
   refine ⟨_, _, _, H4.cell (off := 7) rfl, _, _, _, H4.m3.cell (off := 6) rfl, rdS H4.m4 fun t4 ht4 => ⟨_, _, _, ht4.2.2.2.2.2.2.2.1, ?_⟩⟩
   have hfoc := Hs.focus (A := smA s) (i := i) (by rw [List.getElem?_map, List.getElem?_eq_getElem hil, ← hse]; rfl) H4.m5
   refine texts_hs (l := s.a.ns) (l' := s.a.ns) H4.m1.rd hfoc.rd rfl rfl (by omega) (fun _ => ⟨_, rfl, z256.J1_of (y13 rfl ?_)⟩) rfl
   dsimp only
   rw [show IntKind.i64.wrap ((i : Int) + 1) = ((i + 1 : Nat) : Int) by rw [y34 (by omega) (by omega)]; omega]
   have hm := lact_more B.state l s.o
   exact ih (i + 1) (by omega) (hm.2.1.trans htl) (by have := hm.2.2.2; omega) ai2 hr (H4.sel 6 [2, 3, 4, 5])
 exact go x.sm.length 0 (by omega) rfl (Nat.le_refl _) aib hrp H1
end Go.Proofs.YtglcanljknjcfaaGreatDoor

set_option maxRecDepth 20000
namespace Go.Proofs.YtglcanljknjcfaaGreatDoor
open Go Go.HW
variable {h : Heap} {L : List Assn} {Q : Value → Heap → Prop} {q : Nat} {A B : AM} {t t' : ATx} {lv od : List Lf} {x x' : Lf}
def lp (x : Lf) : Value := ptrV x.b
abbrev lvA (a : OA) (c : Nat) (lv : List Lf) : Assn := own a lv.length c y65 1 (lv.map lp)
theorem Hs.life {i : Nat} (H : Hs h (Sp (lv.map lifeA) :: L)) (hi : lv[i]? = some x) : Hs h (lifeA x :: Sp ((lv.map lifeA).eraseIdx i) :: L) := Hs.focus (by rw [List.getElem?_map, hi]; rfl) H
theorem Hs.unlife {i : Nat} (hi : lv[i]? = some x) (H : Hs h (lifeA x' :: Sp ((lv.map lifeA).eraseIdx i) :: L)) : Hs h (Sp ((lv.set i x').map lifeA) :: L) := by
 have := Hs.unfocus (As := lv.map lifeA) (i := i) (by rw [List.length_map]; exact (List.getElem?_eq_some_iff.1 hi).1) H
 rwa [List.map_set]
theorem set_same {i : Nat} (hi : lv[i]? = some x) : lv.set i x = lv := by
 refine List.ext_getElem? fun j => ?_
 rw [List.getElem?_set]
 split
 ·rename_i e; subst e; rw [if_pos (List.getElem?_eq_some_iff.1 hi).1, hi]
 ·rfl
theorem set_lp {i : Nat} (hi : lv[i]? = some x) (hb : x'.b = x.b) : (lv.set i x').map lp = lv.map lp := by
 rw [List.map_set]
 refine List.ext_getElem? fun j => ?_
 rw [List.getElem?_set, List.getElem?_map]
 split
 ·rename_i e
  subst e
  rw [if_pos (by rw [List.length_map]; exact (List.getElem?_eq_some_iff.1 hi).1), hi]
  simp [lp, hb]
 ·rfl
theorem y174 {i j : Nat} {v : Value} (H : Hs h (Sp (lv.map lifeA) :: L)) (hi : lv[i]? = some x) (hv : (lfV x)[j]? = some v) : cellH h (Addr.add ⟨x.b, 0, none⟩ j) = some v := by
 have := (y135.1 (Hs.life H hi)).cell (off := j) hv
 rw [add_mk, Nat.zero_add]
 exact this
theorem find_hs {la : OA} {lc : Nat} {n : Int} (hb : lv.length < 2 ^ 40) (H : Hs h (lvA la lc lv :: Sp (lv.map lifeA) :: L)) (k0 : Q (.int .i64 (-1)) h) (k1 : ∀ (i : Nat) x, lv[i]? = some x → (x.n : Int) = n → x.done = false → Q (.int .i64 (i : Nat)) h) :
  SpecH PP z263 [.slice la lv.length lc, .int .i64 n] h Q := by
 refine z262.door ?_
 have go : ∀ (r i : Nat), i + r = lv.length → z262.L1 la lv.length lc n (i : Nat) (z262.K1 Q) h := by
  intro r
  induction r with
  | zero =>
   intro i hi
   exact z262.L1_of (y13 (by simp; omega) (z262.L1_X0 k0))
  | succ r ih =>
   intro i hi
   have hil : i < lv.length := by omega
   have hx : lv[i]? = some lv[i] := List.getElem?_eq_getElem hil
   have rd : ∀ {R : Addr → Heap → Prop}, (∀ t, cellH h t = some (lp lv[i]) → R t h) → hwp PP (Instr.indexAt y30 (.slice la lv.length lc) (.int .i64 (i : Nat))) (fun u h1 => ∃ t, u = .pointer (some t) ∧ R t h1) h := fun K =>
    idx y103 H.rd (by omega) (by omega) (by rw [Int.toNat_natCast, List.getElem?_map, hx]; rfl) K
   have nxt : z262.J1 la lv.length lc n (i : Nat) false (z262.K1 Q) h := by
    refine z262.J1_of (y13 rfl ?_)
    dsimp only
    rw [show IntKind.i64.wrap ((i : Int) + 1) = ((i + 1 : Nat) : Int) by rw [y34 (by omega) (by omega)]; omega]
    exact ih (i + 1) (by omega)
   refine z262.L1_of (y22 (by simp; omega) (rd fun t ht => ⟨_, ht, _, y174 (j := 0) H.m1 hx rfl, (y16 _ _ _).2 ⟨fun e => rd fun t2 ht2 => ⟨_, ht2, _, y174 (j := 4) H.m1 hx rfl, ?_⟩, fun e => nxt⟩⟩))
   have e : ((lv[i]).n : Int) = n := by simpa using e
   dsimp only
   cases hd : (lv[i]).done with
   | true => exact nxt
   | false => exact z262.J1_of (y22 rfl (z262.L1_Xret (k1 i _ hx e hd)))
 exact go lv.length 0 (by omega)
end Go.Proofs.YtglcanljknjcfaaGreatDoor

set_option maxRecDepth 20000
namespace Go.Proofs.YtglcanljknjcfaaGreatDoor
open Go Go.HW
variable {h : Heap} {L : List Assn} {Q : Value → Heap → Prop} {q : Nat} {A B : AM} {t t' : ATx} {lv od : List Lf} {x x' : Lf}
def SWf (lv : List Lf) : Prop := ∀ x ∈ lv, ∀ s ∈ x.sm, OpWf s.o
theorem SWf.set {i : Nat} (w : SWf lv) (h : ∀ s ∈ x'.sm, OpWf s.o) : SWf (lv.set i x') := fun y hy => by
 rcases List.mem_or_eq_of_mem_set hy with q | rfl
 ·exact w y q
 ·exact h
abbrev stA (q : Nat) (A : AM) (la : OA) (lc : Nat) (lv : List Lf) (oa : OA) (oc : Nat) (od : List Lf) (L : List Assn) : List Assn := manA q A :: lvA la lc lv :: Sp (lv.map lifeA) :: lvA oa oc od :: L
theorem find_hs2 {la : OA} {lc : Nat} {n : Int} (hb : lv.length < 2 ^ 40) (H : Hs h (lvA la lc lv :: Sp (lv.map lifeA) :: L)) (k : ∀ v : Int, (v = -1 ∨ ∃ (j : Nat) (x : Lf), v = (j : Int) ∧ lv[j]? = some x ∧ (x.n : Int) = n ∧ x.done = false) → Q (.int .i64 v) h) :
  SpecH PP z263 [.slice la lv.length lc, .int .i64 n] h Q := find_hs hb H (k (-1) (.inl rfl)) fun j x h1 h2 h3 => k j (.inr ⟨j, x, rfl, h1, h2, h3⟩)
theorem script_hs {a : OA} {n c : Nat} {l : List OpV} (g : Gv L a (l.flatMap opV)) (hn : l.length = n) (hn2 : n ≤ 4096) (hw : ∀ o ∈ l, OpWf o)
  (last : ∀ {h2 : Heap} {A : AM} {la oa : OA} {lc oc : Nat} {lv od : List Lf}, IV A lv od (2 * n) → SWf lv → Hs h2 (stA q A la lc lv oa oc od L) → (z252.K1 Q) (.exit 0) (z252.X0 (some ⟨q, 0, none⟩) oa od.length oc) h2) :
  ∀ (r i : Nat) {h2 : Heap} {A : AM} {la oa : OA} {lc oc : Nat} {lv od : List Lf}, i + r = n → IV A lv od (2 * i) → SWf lv → Hs h2 (stA q A la lc lv oa oc od L) →
   z252.L1 a n c (some ⟨q, 0, none⟩) la lv.length lc oa od.length oc (i : Nat) (z252.K1 Q) h2 := by
 intro r
 induction r with
 | zero =>
  intro i h2 A la oa lc oc lv od hi iv wf H
  have : i = n := by omega
  subst this
  exact z252.L1_of (y13 (by simp) (last iv wf H))
 | succ r ih =>
  intro i h2 A la oa lc oc lv od hi iv wf H
  have hil : i < l.length := by omega
  refine z252.L1_of (y22 (by simp; omega) ?_)
  refine idxf E_sl_haversacklaw14_Op (φ := opV) (l := l) (x := l[i]) (g.cons.cons.cons.cons h2 H) opV_len (by decide) (by omega) (by omega) (by rw [Int.toNat_natCast, List.getElem?_eq_getElem hil]) fun t ht => ⟨_, _, _, _, _, _, ht, ?_⟩
  obtain ⟨o, hoe⟩ : ∃ o, o = l[i] := ⟨_, rfl⟩
  have hwo : OpWf o := hoe ▸ hw _ (List.getElem_mem hil)
  rw [← hoe]
  have H3 := H.new (t := y58) (cs := #[.int .i64 0, .int .i64 0, .string ⟨#[]⟩, .string ⟨#[]⟩, .string ⟨#[]⟩, .string ⟨#[]⟩]) (xs := opV ⟨0, 0, e0, e0, e0, e0⟩)
  dsimp only
  generalize Array.size h2 = o7 at H3 ⊢
  generalize Array.push h2 _ = h3 at H3 ⊢
  refine H3.wrs (vs := opV o) (hv := opV_one _) fun h4 H4 => ⟨_, H4.cell (off := 1) rfl, ?_⟩
  have nxt : ∀ {h5 : Heap} {A : AM} {la oa : OA} {lc oc : Nat} {lv od : List Lf}, IV A lv od (2 * i + 2) → SWf lv → Hs h5 (stA q A la lc lv oa oc od L) → z252.J2 a n c (some ⟨q, 0, none⟩) la lv.length lc oa od.length oc (i : Nat) (z252.K1 Q) h5 := by
   intro h5 A la oa lc oc lv od iv wf H5
   refine z252.J2_of ?_
   dsimp only
   rw [show IntKind.i64.wrap ((i : Int) + 1) = ((i + 1 : Nat) : Int) by rw [y34 (by omega) (by omega)]; omega]
   exact ih (i + 1) (by omega) (iv.mono (by omega)) wf H5
  have found : ∀ {h5 : Heap} {A : AM} {la oa : OA} {lc oc : Nat} {lv od : List Lf} {j : Nat} {x : Lf} {b : Bool}, IV A lv od (2 * i + 1) → SWf lv → lv[j]? = some x → (x.n : Int) = o.n → x.done = false →
    Hs h5 (pt o7 y58 (opV o) :: stA q A la lc lv oa oc od L) → z252.J3 a n c (some ⟨q, 0, none⟩) la lv.length lc oa od.length oc (i : Nat) ⟨o7, 0, none⟩ (some ⟨x.b, 0, none⟩) o.kd b (z252.K1 Q) h5 := by
   intro h5 A la oa lc oc lv od j x b iv wf hj hxn hd H
   have hxm : x ∈ lv := List.mem_of_getElem? hj
   have hb := iv.ok.bd (by omega)
   have hsx := iv.seen x hxm
   have hll := iv.len
   have cn : ∀ {h : Heap} {M : List Assn}, Hs h (Sp (lv.map lifeA) :: M) → cellH h ⟨x.b, 0, none⟩ = some (.int .i64 x.n) := fun H => y174 (j := 0) H hj rfl
   refine z252.J3_of ((y16 _ _ _).2 ⟨fun _ => ⟨_, cn H.m3, _, _, _, _, _, _, H.rdc0, ?_⟩, fun _ => ?_⟩)
   ·-- a call
    have j4 : ∀ {h6 : Heap} {s12 : Nat} {na : OA} {nc : Nat}, Hs h6 (pt s12 y35 (seenV o (A.act (x.n : Int) o).2.da na (A.act (x.n : Int) o).2.ns.length nc (A.act (x.n : Int) o).2.e) :: own na (A.act (x.n : Int) o).2.ns.length nc y29 1 ((A.act (x.n : Int) o).2.ns.map Value.string) :: manA q (A.act (x.n : Int) o).1 :: lvA la lc lv :: Sp (lv.map lifeA) :: lvA oa oc od :: L) →
      z252.J4 a n c (some ⟨q, 0, none⟩) la lv.length lc oa od.length oc (i : Nat) (some ⟨x.b, 0, none⟩) ⟨s12, 0, none⟩ (z252.K1 Q) h6 := by
     intro h6 s12 na nc H
     refine z252.J4_of ⟨_, _, _, y174 (j := 6) H.m4 hj rfl, _, _, _, _, _, _, _, _, _, _, _, H.rdc0, ?_⟩
     have G := y135.1 (Hs.life (H.sel 6 [4, 1, 2, 3, 5]) hj)
     refine (G.sel 8 [1, 0, 2, 3, 4, 5, 6, 7]).app_vals y188 (m := 1) (ys := seenV o (A.act (x.n : Int) o).2.da na (A.act (x.n : Int) o).2.ns.length nc (A.act (x.n : Int) o).2.e) rfl rfl (seenV_one _ _ _ _ _ _) (fun h7 sa' sc' G2 => ⟨_, _, _, rfl, ?_⟩) (by omega) (by omega)
     refine (G2.sel 8 [1, 0, 2, 3, 4, 5, 6, 7]).sto (off := 6) (by simp [lfV]) fun h8 G3 => ?_
     have ivn := iv.act hj hd o na nc sa' sc'
     obtain ⟨x', hx'⟩ : ∃ x' : Lf, x' = { x with sa := sa', sc := sc', sm := x.sm ++ [⟨o, (A.act (x.n : Int) o).2, na, nc⟩] } := ⟨_, rfl⟩
     rw [← hx'] at ivn
     have G4 : Hs h8 (lifeA x' :: Sp ((lv.map lifeA).eraseIdx j) :: manA q (A.act (x.n : Int) o).1 :: lvA la lc lv :: lvA oa oc od :: L) := by
      refine y135.2 ?_
      have P := G3.sel 8 [4, 2, 0, 1, 3, 5, 6, 7]
      have P1 := (Hs.spl (B := smA ⟨o, (A.act (x.n : Int) o).2, na, nc⟩)).2 P
      have P2 := P1.spp (Bs := x'.sm.map smA) (by rw [hx']; show List.Perm _ ((x.sm ++ [_]).map smA); rw [List.map_append, List.map_singleton]; exact List.perm_append_comm (l₁ := [_]))
      have e1 : x'.sm.length = x.sm.length + 1 := by rw [hx']; simp
      have e2 : x'.sm.flatMap smV = x.sm.flatMap smV ++ seenV o (A.act (x.n : Int) o).2.da na (A.act (x.n : Int) o).2.ns.length nc (A.act (x.n : Int) o).2.e := by rw [hx']; show (x.sm ++ [_]).flatMap smV = _; rw [List.flatMap_append]; rfl
      have e3 : lfV x' = (lfV x).set 6 (.slice sa' (x.sm.length + 1) sc') := by unfold lfV; rw [e1, hx']; rfl
      have e4 : x'.b = x.b ∧ x'.sa = sa' ∧ x'.sc = sc' := by rw [hx']; exact ⟨rfl, rfl, rfl⟩
      rw [e1, e2, e3, e4.1, e4.2.1, e4.2.2]
      exact P2.sel 7 [1, 2, 0, 3, 4, 5, 6]
     have G5 := Hs.unlife hj G4
     have hlen : (lv.set j x').length = lv.length := List.length_set ..
     have wf' : SWf (lv.set j x') := wf.set fun s hs => by
      rw [hx'] at hs
      rcases List.mem_append.1 hs with q | q
      ·exact wf x hxm s q
      ·rw [List.mem_singleton.1 q]; exact hwo
     have := nxt (la := la) (lc := lc) ivn wf' (by
      show Hs h8 (manA q _ :: lvA la lc (lv.set j x') :: _)
      unfold lvA
      rw [hlen, set_lp hj (by rw [hx'])]
      exact G5.sel 4 [1, 2, 0, 3])
     rwa [hlen] at this
    rw [hxn] at j4 ⊢
    refine ⟨?_, ?_, trivial⟩
    ·refine act_hs (o := o) hb hwo (H.sel 5 [1, 0, 2, 3, 4]) fun h6 na nc _ H6 => ⟨_, _, _, _, _, _, _, _, _, _, _, rfl, ?_⟩
     have H7 := H6.new (t := y35) (cs := #[.int .i64 0, .int .i64 0, .string ⟨#[]⟩, .string ⟨#[]⟩, .string ⟨#[]⟩, .string ⟨#[]⟩, .string ⟨#[]⟩, .slice none 0 0, .int .i64 0]) (xs := seenV ⟨0, 0, e0, e0, e0, e0⟩ e0 none 0 0 0)
     dsimp only
     generalize Array.size h6 = s12 at H7 ⊢
     generalize Array.push h6 _ = h7 at H7 ⊢
     exact H7.wrs (vs := seenV o (A.act o.n o).2.da na (A.act o.n o).2.ns.length nc (A.act o.n o).2.e) (hv := seenV_one _ _ _ _ _ _) fun h8 H8 => j4 (H8.sel 7 [0, 1, 2, 4, 5, 6])
    ·have H6 := H.new (t := y35) (cs := #[.int .i64 0, .int .i64 0, .string ⟨#[]⟩, .string ⟨#[]⟩, .string ⟨#[]⟩, .string ⟨#[]⟩, .string ⟨#[]⟩, .slice none 0 0, .int .i64 0]) (xs := seenV ⟨0, 0, e0, e0, e0, e0⟩ e0 none 0 0 0)
     dsimp only
     generalize Array.size h5 = s12 at H6 ⊢
     generalize Array.push h5 _ = h6 at H6 ⊢
     refine act_hs (o := o) hb hwo (H6.sel 6 [2, 0, 1, 3, 4, 5]) fun h7 na nc _ H7 => ⟨_, _, _, _, _, _, _, _, _, _, _, rfl, ?_⟩
     exact (H7.sel 7 [2, 0, 1, 4, 5, 6]).wrs (vs := seenV o (A.act o.n o).2.da na (A.act o.n o).2.ns.length nc (A.act o.n o).2.e) (hv := seenV_one _ _ _ _ _ _) fun h8 H8 => j4 H8
   refine (y16 _ _ _).2 ⟨fun _ => ⟨_, cn H.m3, ?_⟩, fun _ => (y16 _ _ _).2 ⟨fun _ => ⟨_, cn H.m3, ?_⟩, fun _ => nxt (iv.mono (by omega)) wf H.tl⟩⟩
   ·-- a commit
    refine y191 hb ((iv.ok.pushed _).bd (by omega)) H.m1 fun h6 H6 => ⟨_, _, rfl, ?_⟩
    have G := y135.1 (Hs.life (H6.sel 5 [3, 0, 2, 4]) hj)
    refine G.sto (off := 4) (by simp [lfV]) fun h7 G7 => G7.sto (off := 3) (by simp [lfV]) fun h8 G8 => ⟨_, G8.cell (off := 1) rfl, G8.sto (off := 2) (by simp [lfV]) fun h9 G9 => ⟨_, G9.cell (off := 3) rfl, ?_⟩⟩
    obtain ⟨x', hx'⟩ : ∃ x' : Lf, x' = { x with done := true, wrote := decide (0 < (A.commit (x.n : Int)).2.1), at_ := if decide (0 < (A.commit (x.n : Int)).2.1) then (A.commit (x.n : Int)).2.1 else x.snap } := ⟨_, rfl⟩
    have ivn := iv.commit (x' := x') hj hd (by rw [hx']) (by rw [hx']) (by rw [hx']) (by rw [hx']) (by rw [hx']) (by rw [hx'])
    have wf' : SWf (lv.set j x') := wf.set fun s hs => by
     rw [hx'] at hs; exact wf x hxm s hs
    have hlen : (lv.set j x').length = lv.length := List.length_set ..
    have hdec : decide ((((A.commit (x.n : Int)).2.1 : Nat) : Int) > 0) = decide (0 < (A.commit (x.n : Int)).2.1) := decide_eq_decide.2 (by omega)
    have j5 : ∀ {h10 : Heap}, Hs h10 (pt x.b y81 (lfV x') :: own x.sa x.sm.length x.sc y35 9 (x.sm.flatMap smV) :: Sp (x.sm.map smA) :: Sp ((lv.map lifeA).eraseIdx j) :: manA q (A.commit (x.n : Int)).1 :: lvA la lc lv :: lvA oa oc od :: L) →
      z252.J5 a n c (some ⟨q, 0, none⟩) la lv.length lc oa od.length oc (i : Nat) (some ⟨x.b, 0, none⟩) (A.commit (x.n : Int)).2.2 (z252.K1 Q) h10 := by
     intro h10 G
     have e4 : x'.b = x.b ∧ x'.sa = x.sa ∧ x'.sc = x.sc ∧ x'.sm = x.sm := by rw [hx']; exact ⟨rfl, rfl, rfl, rfl⟩
     have G4 : Hs h10 (lifeA x' :: Sp ((lv.map lifeA).eraseIdx j) :: manA q (A.commit (x.n : Int)).1 :: lvA la lc lv :: lvA oa oc od :: L) := by
      refine y135.2 ?_
      rw [e4.1, e4.2.1, e4.2.2.1, e4.2.2.2]; exact G
     have G5 := Hs.unlife hj G4
     have G6 : Hs h10 (manA q (A.commit (x.n : Int)).1 :: lvA la lc (lv.set j x') :: Sp ((lv.set j x').map lifeA) :: lvA oa oc od :: L) := by
      unfold lvA
      rw [hlen, set_lp hj e4.1]
      exact G5.sel 4 [1, 2, 0, 3]
     refine z252.J5_of ((y16 _ _ _).2 ⟨fun e => ?_, fun e => ?_⟩)
     ·have e : (A.commit (x.n : Int)).2.2 = 0 := by simpa using e
      rw [if_pos e] at ivn
      refine (G6.sel 4 [3, 0, 1, 2]).app_vals y103 (m := 1) (ys := [ptrV x.b]) rfl rfl (by simp [oneC, ptrV]) (fun h11 oa' oc' G7 => ⟨_, _, _, rfl, ?_⟩) (by omega) (by omega)
      have := nxt (la := la) (lc := lc) (oa := oa') (oc := oc') ivn wf' (by
       show Hs h11 (manA q _ :: lvA la lc (lv.set j x') :: Sp ((lv.set j x').map lifeA) :: own oa' (od ++ [x']).length oc' y65 1 ((od ++ [x']).map lp) :: L)
       have e5 : (od ++ [x']).map lp = od.map lp ++ [ptrV x.b] := by rw [List.map_append]; simp [lp, e4.1]
       have e6 : (od ++ [x']).length = od.length + 1 := by simp
       rw [e5, e6]
       exact G7.sel 4 [1, 2, 3, 0])
      rw [hlen, show (od ++ [x']).length = od.length + 1 by simp] at this
      exact this
     ·have e : (A.commit (x.n : Int)).2.2 ≠ 0 := by simpa using e
      rw [if_neg e] at ivn
      have := nxt (la := la) (lc := lc) ivn wf' G6
      rwa [hlen] at this
    rw [hdec] at G9 ⊢
    refine (y16 _ _ _).2 ⟨fun e => ?_, fun e => ?_⟩
    ·refine G9.sto (off := 2) (by simp [lfV]) fun h10 G10 => j5 ?_
     have ef : lfV x' = [.int .i64 x.n, .int .i64 x.snap, .int .i64 ((A.commit (x.n : Int)).2.1 : Nat), .bool (decide (0 < (A.commit (x.n : Int)).2.1)), .bool true, .string x.tn, .slice x.sa x.sm.length x.sc] := by rw [hx']; unfold lfV; simp only; rw [if_pos e]
     rw [ef]; exact G10
    ·refine j5 ?_
     have ef : lfV x' = [.int .i64 x.n, .int .i64 x.snap, .int .i64 x.snap, .bool (decide (0 < (A.commit (x.n : Int)).2.1)), .bool true, .string x.tn, .slice x.sa x.sm.length x.sc] := by rw [hx']; unfold lfV; simp only; rw [if_neg (by rw [e]; simp)]
     rw [ef]; exact G9
   ·-- an abort
    refine MAbort_hs hb H.m1 fun h6 H6 => ⟨_, rfl, ?_⟩
    obtain ⟨t, ef, _⟩ := iv.un x hxm hd
    have eab : (A.abort (x.n : Int)).1 = A.close (x.n : Int) := by unfold AM.abort; rw [ef]; rfl
    rw [eab] at H6
    have G := y135.1 (Hs.life (H6.sel 5 [3, 0, 2, 4]) hj)
    refine G.sto (off := 4) (by simp [lfV]) fun h7 G7 => ?_
    have ivn := iv.gone (x' := { x with done := true }) hj hd rfl rfl rfl
    have G4 : Hs h7 (lifeA { x with done := true } :: Sp ((lv.map lifeA).eraseIdx j) :: manA q (A.close (x.n : Int)) :: lvA la lc lv :: lvA oa oc od :: L) := y135.2 G7
    have G5 := Hs.unlife hj G4
    have hlen : (lv.set j { x with done := true }).length = lv.length := List.length_set ..
    have := nxt (la := la) (lc := lc) ivn (wf.set fun s hs => wf x hxm s hs) (by
     show Hs h7 (manA q _ :: lvA la lc (lv.set j { x with done := true }) :: _)
     unfold lvA
     rw [hlen, set_lp (x' := { x with done := true }) hj rfl]
     exact G5.sel 4 [1, 2, 0, 3])
    rwa [hlen] at this
  have hb := iv.ok.bd (by omega)
  have hll := iv.len
  have j1 : ∀ {h5 : Heap} {A : AM} {la oa : OA} {lc oc : Nat} {lv' : List Lf} {v : Int}, IV A lv' od (2 * i + 1) → SWf lv' → (v = -1 ∨ ∃ (j : Nat) (x : Lf), v = (j : Int) ∧ lv'[j]? = some x ∧ (x.n : Int) = o.n ∧ x.done = false) →
    Hs h5 (pt o7 y58 (opV o) :: stA q A la lc lv' oa oc od L) → z252.J1 a n c (some ⟨q, 0, none⟩) la lv'.length lc oa od.length oc (i : Nat) ⟨o7, 0, none⟩ v (z252.K1 Q) h5 := by
   intro h5 A la oa lc oc lv' v iv wf hv H
   rcases hv with rfl | ⟨j, x, rfl, hj, hxn, hd⟩
   ·exact z252.J1_of (y22 rfl (nxt (iv.mono (by omega)) wf H.tl))
   ·have hjl := (List.getElem?_eq_some_iff.1 hj).1
    refine z252.J1_of (y13 (by simp) ?_)
    refine idx y103 (v := lp x) H.m2.rd (by omega) (by omega) (by rw [Int.toNat_natCast, List.getElem?_map, hj]; rfl) fun t ht => ⟨_, ht, _, H.cell (off := 0) rfl, ?_⟩
    refine (y16 _ _ _).2 ⟨fun _ => found iv wf hj hxn hd H, fun _ => (y16 _ _ _).2 ⟨fun _ => found iv wf hj hxn hd H, fun _ => (y16 _ _ _).2 ⟨fun _ => found iv wf hj hxn hd H, fun _ => (y16 _ _ _).2 ⟨fun _ => found iv wf hj hxn hd H, fun _ => found iv wf hj hxn hd H⟩⟩⟩⟩
  refine find_hs2 (lv := lv) (n := o.n) (by omega) (H4.sel 5 [2, 3, 0, 1, 4]) fun v hv => ⟨_, rfl, _, H4.cell (off := 0) rfl, (y16 _ _ _).2 ⟨fun _ => ⟨_, H4.cell (off := 2) rfl, MBegin_hs hb (H4.sel 5 [1, 0, 2, 3, 4]) fun h5 H5 => ⟨_, _, rfl, (y16 _ _ _).2 ⟨fun e => ?_, fun e => ?_⟩⟩⟩, fun _ => j1 (iv.mono (by omega)) wf hv H4⟩⟩
  ·have e : (A.begin o.te).2.2 = 0 := by simpa using e
   obtain ⟨b1, b2⟩ := begin_ok iv.ok e
   have hnow : (A.begin o.te).1.now = A.now := by rw [begin_eq b1 b2]; rfl
   have ivb := fun b => (iv.begin e b).1
   have enx : (A.begin o.te).2.1 = (A.next : Int) := (iv.begin e 0).2
   have hb2 := (ivb 0).ok.bd (by omega)
   rw [enx]
   have app : ∀ {h6 : Heap} {K : Value → Heap → Prop}, (∀ h7 la' lc' y, IV (A.begin o.te).1 (lv ++ [y]) od (2 * i + 1) → y.sm = [] → Hs h7 (pt o7 y58 (opV o) :: stA q (A.begin o.te).1 la' lc' (lv ++ [y]) oa oc od L) → K (.slice la' (lv.length + 1) lc') h7) →
     Hs h6 (manA q (A.begin o.te).1 :: pt o7 y58 (opV o) :: lvA la lc lv :: Sp (lv.map lifeA) :: lvA oa oc od :: L) →
     hwp PP (Builtin.append_ #[y30, y30] y30 #[(.slice la lv.length lc), (.slice (some ⟨Array.size (Array.push h6 (.cells #[(.int .i64 (A.next : Nat)), (.int .i64 (A.now : Nat)), (.int .i64 0), (.bool false), (.bool false), (.string o.te), (.slice none 0 0)] y81 (0, 0))), 0, none⟩) 1 1)]) K
      (Array.push (Array.push h6 (.cells #[(.int .i64 (A.next : Nat)), (.int .i64 (A.now : Nat)), (.int .i64 0), (.bool false), (.bool false), (.string o.te), (.slice none 0 0)] y81 (0, 0))) (.cells #[(.pointer (some ⟨Array.size h6, 0, none⟩))] y65 (0, 0))) := by
    intro h6 K kk H6
    have H7 := H6.new (t := y81) (cs := #[(.int .i64 (A.next : Nat)), (.int .i64 (A.now : Nat)), (.int .i64 0), (.bool false), (.bool false), (.string o.te), (.slice none 0 0)]) (xs := lfV ⟨0, A.next, A.now, 0, false, false, o.te, none, 0, []⟩)
    generalize Array.size h6 = b at H7 ⊢
    generalize Array.push h6 _ = h7 at H7 ⊢
    refine (H7.sel 6 [3, 0, 1, 2, 4, 5]).app_vals y103 (m := 1) (ys := [ptrV b]) rfl rfl (by simp [oneC, ptrV]) (fun h8 la' lc' H8 => kk h8 la' lc' ⟨b, A.next, A.now, 0, false, false, o.te, none, 0, []⟩ (ivb b) rfl ?_) (by omega) (by omega)
    have G := (H8.sel 6 [1, 0, 2, 3, 4, 5])
    have G1 : Hs h8 (lifeA ⟨b, A.next, A.now, 0, false, false, o.te, none, 0, []⟩ :: own la' (lv.length + 1) lc' y65 1 (lv.map lp ++ [ptrV b]) :: manA q (A.begin o.te).1 :: pt o7 y58 (opV o) :: Sp (lv.map lifeA) :: lvA oa oc od :: L) := by
     refine y135.2 ?_
     have P : Hs h8 (own none 0 0 y35 9 [] :: Sp [] :: _) := ((Hs.app (L := [])).2 G).own_nil y35 9
     exact P.sel 3 [2, 0, 1]
    have G2 := (Hs.spl (B := lifeA ⟨b, A.next, A.now, 0, false, false, o.te, none, 0, []⟩)).2 (G1.sel 6 [0, 4, 1, 2, 3, 5])
    have G3 := G2.spp (Bs := (lv ++ [(⟨b, A.next, A.now, 0, false, false, o.te, none, 0, []⟩ : Lf)]).map lifeA) (by rw [List.map_append, List.map_singleton]; exact List.perm_append_comm (l₁ := [_]))
    have e5 : (lv ++ [(⟨b, A.next, A.now, 0, false, false, o.te, none, 0, []⟩ : Lf)]).map lp = lv.map lp ++ [ptrV b] := by rw [List.map_append]; rfl
    have e6 : (lv ++ [(⟨b, A.next, A.now, 0, false, false, o.te, none, 0, []⟩ : Lf)]).length = lv.length + 1 := by simp
    show Hs h8 (pt o7 y58 (opV o) :: manA q _ :: own la' (lv ++ [(⟨b, A.next, A.now, 0, false, false, o.te, none, 0, []⟩ : Lf)]).length lc' y65 1 ((lv ++ [(⟨b, A.next, A.now, 0, false, false, o.te, none, 0, []⟩ : Lf)]).map lp) :: _ :: _ :: _)
    rw [e5, e6]
    exact G3.sel 5 [3, 2, 1, 0, 4]
   have fin : ∀ {h7 : Heap} {la' : OA} {lc' : Nat} {y : Lf}, IV (A.begin o.te).1 (lv ++ [y]) od (2 * i + 1) → y.sm = [] → Hs h7 (pt o7 y58 (opV o) :: stA q (A.begin o.te).1 la' lc' (lv ++ [y]) oa oc od L) →
     z252.J1 a n c (some ⟨q, 0, none⟩) la' (lv.length + 1) lc' oa od.length oc (i : Nat) ⟨o7, 0, none⟩ v (z252.K1 Q) h7 := by
    intro h7 la' lc' y ivy hy H7
    have := j1 ivy (fun x hx s hs => by
     rcases List.mem_append.1 hx with q | q
     ·exact wf x q s hs
     ·rw [List.mem_singleton.1 q, hy] at hs; cases hs) (hv.imp id fun ⟨j, x, e1, e2, e3, e4⟩ => ⟨j, x, e1, by rw [List.getElem?_append_left (List.getElem?_eq_some_iff.1 e2).1]; exact e2, e3, e4⟩) H7
    rwa [show (lv ++ [y]).length = lv.length + 1 by simp] at this
   refine ⟨?_, ?_, trivial⟩
   ·refine MNow_hs hb2 H5 ⟨_, rfl, _, H5.m1.cell (off := 2) rfl, ?_⟩
    rw [hnow]
    exact app (fun h7 la' lc' y ivy hy H7 => ⟨_, _, _, rfl, fin ivy hy H7⟩) H5
   ·refine ⟨_, H5.m1.cell (off := 2) rfl, MNow_hs hb2 H5 ⟨_, rfl, ?_⟩⟩
    rw [hnow]
    exact app (fun h7 la' lc' y ivy hy H7 => ⟨_, _, _, rfl, fin ivy hy H7⟩) H5
  ·have e : (A.begin o.te).2.2 ≠ 0 := by simpa using e
   rw [begin_no e] at H5
   exact j1 (iv.mono (by omega)) wf hv H5.m1
end Go.Proofs.YtglcanljknjcfaaGreatDoor

set_option maxRecDepth 20000
namespace Go.Proofs.YtglcanljknjcfaaGreatDoor
open Go Go.HW
variable {h : Heap} {L : List Assn} {Q : Value → Heap → Prop}
theorem i1w {i : Nat} (hi : i < 2 ^ 62) : IntKind.i64.wrap ((i : Int) + 1) = ((i + 1 : Nat) : Int) := by rw [y34 (by omega) (by omega)]; omega
theorem Same_hs {a b : OA} {c d : Nat} {D : List Arc} (hmax : D.length < 2 ^ 40) (hm2 : ∀ x ∈ D, x.es.length < 2 ^ 40) (H : Hs h (arcsA a c D :: arcsA b d D :: L)) (k : ∀ h', Hs h' (arcsA a c D :: arcsA b d D :: L) → Q (.bool true) h') : SpecH PP z281 [.slice a D.length c, .slice b D.length d] h Q := by
 obtain ⟨P1, e1, H1⟩ := y176.1 H
 obtain ⟨P2, e2, H2⟩ := y176.1 H1.m2
 have fin := k h H
 clear k H1
 have l1 : P1.length = D.length := by rw [← e1, List.length_map]
 have l2 : P2.length = D.length := by rw [← e2, List.length_map]
 refine z280.door (y13 (by simp) ?_)
 have eP : ∀ {i : Nat} (hi : i < D.length), P1[i].t = P2[i].t ∧ P1[i].n = P2[i].n ∧ P1[i].es = P2[i].es ∧ P1[i].es.length < 2 ^ 40 := by
  intro i hi
  have q1 : P1[i].arc = D[i] := by subst e1; simp
  have q2 : P2[i].arc = D[i] := by simp [← e2]
  have q := q1.trans q2.symm
  unfold PArc.arc at q
  simp only [Arc.mk.injEq] at q
  refine ⟨q.1, q.2.1, q.2.2, ?_⟩
  have := hm2 _ (List.getElem_mem hi)
  rw [← q1] at this; exact this
 have A1 : ∀ {i : Nat} (hi : i < D.length) {R : Addr → Heap → Prop}, (∀ t, rdCells h t 0 (arcV P1[i]) → R t h) → hwp PP (Instr.indexAt y42 (.slice a D.length c) (.int .i64 (i : Int))) (fun u h1 => ∃ t, u = .pointer (some t) ∧ R t h1) h := fun {i} hi {R} K => by
  rw [← l1]; exact idxf y118 (φ := arcV) (l := P1) (x := P1[i]) (Hs.rd H2.m2) y177 (by decide) (by omega) (by omega) (by simp) K
 have A2 : ∀ {i : Nat} (hi : i < D.length) {R : Addr → Heap → Prop}, (∀ t, rdCells h t 0 (arcV P2[i]) → R t h) → hwp PP (Instr.indexAt y42 (.slice b D.length d) (.int .i64 (i : Int))) (fun u h1 => ∃ t, u = .pointer (some t) ∧ R t h1) h := fun {i} hi {R} K => by
  rw [← l2]; exact idxf y118 (φ := arcV) (l := P2) (x := P2[i]) (Hs.rd H2) y177 (by decide) (by omega) (by omega) (by simp) K
 have B1 : ∀ {i : Nat} (hi : i < D.length), Rd h P1[i].a (P1[i].es.flatMap entV) := fun {i} hi => by
  have F := Hs.focus (As := P1.map entA) (i := i) (A := entA P1[i]) (by rw [List.getElem?_map, List.getElem?_eq_getElem (by omega)]; rfl) H2.m3
  exact Hs.rd F
 have B2 : ∀ {i : Nat} (hi : i < D.length), Rd h P2[i].a (P2[i].es.flatMap entV) := fun {i} hi => by
  have F := Hs.focus (As := P2.map entA) (i := i) (A := entA P2[i]) (by rw [List.getElem?_map, List.getElem?_eq_getElem (by omega)]; rfl) H2.m1
  exact Hs.rd F
 have go : ∀ (n i : Nat), n + i = D.length → z280.L1 a D.length c b D.length d (i : Int) (z280.K1 Q) h := by
  intro n
  induction n with
  | zero => intro i hi; exact z280.L1_of (y13 (decide_eq_false (by omega)) (z280.L1_X0 fin))
  | succ n ih =>
   intro i hi
   have hil : i < D.length := by omega
   obtain ⟨q1, q2, q3, q4⟩ := eP hil
   refine z280.L1_of (y22 (decide_eq_true (by omega)) (A1 hil fun t1 ht1 => ⟨_, ht1.1, A2 hil fun t2 ht2 => ⟨_, ht2.1, y13 (by simp [q1]) ?_⟩⟩))
   refine A1 hil fun t1 ht1 => ⟨_, ht1.2.1, A2 hil fun t2 ht2 => ⟨_, ht2.2.1, y13 (by simp [q2]) ?_⟩⟩
   refine A1 hil fun t1 ht1 => ⟨_, _, _, ht1.2.2.1, A2 hil fun t2 ht2 => ⟨_, _, _, ht2.2.2.1, ?_⟩⟩
   refine z280.J1_of (y13 (by simp [q3]) ?_)
   have go2 : ∀ (m j : Nat), m + j = P1[i].es.length → z280.L2 a D.length c b D.length d (i : Int) (j : Int) (z280.K3 (z280.K1 Q)) h := by
    intro m
    induction m with
    | zero =>
     intro j hj
     refine z280.L2_of (A1 hil fun t1 ht1 => ⟨_, _, _, ht1.2.2.1, y13 (decide_eq_false (by omega)) (z280.L2_X2 ?_)⟩)
     dsimp only
     rw [i1w (i := i) (by omega)]
     exact ih (i + 1) (by omega)
    | succ m ihm =>
     intro j hj
     have hj2 : j < P2[i].es.length := by rw [← q3]; omega
     refine z280.L2_of (A1 hil fun t1 ht1 => ⟨_, _, _, ht1.2.2.1, y22 (decide_eq_true (by omega)) (A1 hil fun t1 ht1 => ⟨_, _, _, ht1.2.2.1, ?_⟩)⟩)
     refine idxf y192 (φ := entV) (l := P1[i].es) (x := P1[i].es[j]) (B1 hil) entV_len (by decide) (by omega) (by omega) (by simp) fun t3 ht3 => ⟨_, _, ht3, A2 hil fun t2 ht2 => ⟨_, _, _, ht2.2.2.1, ?_⟩⟩
     refine idxf y192 (φ := entV) (l := P2[i].es) (x := P2[i].es[j]) (B2 hil) entV_len (by decide) (by omega) (by omega) (by simp) fun t4 ht4 => ⟨_, _, ht4, y13 (by simp [q3]) ?_⟩
     dsimp only
     rw [i1w (i := j) (by omega)]
     exact ihm (j + 1) (by omega)
   exact go2 _ 0 rfl
 exact go D.length 0 (by omega)
end Go.Proofs.YtglcanljknjcfaaGreatDoor

set_option maxRecDepth 20000
namespace Go.Proofs.YtglcanljknjcfaaGreatDoor
open Go Go.HW
variable {h : Heap} {L : List Assn} {Q : Value → Heap → Prop} {q q2 : Nat} {A B : AM} {t t' : ATx} {lv od : List Lf} {x x' : Lf}
def Wn (now : Nat) (x : Lf) : Bool := x.wrote && decide (x.at_ = now)
theorem wn_le {now m : Nat} (h : (od.filter (·.wrote)).map (·.at_) = List.range' 1 m) : (od.filter (Wn now)).length = if 1 ≤ now ∧ now ≤ m then 1 else 0 := by
 have e : od.filter (Wn now) = (od.filter (·.wrote)).filter fun x => decide (x.at_ = now) := by
  rw [List.filter_filter]
  exact congrArg (fun p => od.filter p) (funext fun x => by unfold Wn; rw [Bool.and_comm])
 have e2 : ((od.filter (·.wrote)).filter fun x => decide (x.at_ = now)).length = (((od.filter (·.wrote)).map (·.at_)).filter fun i => decide (i = now)).length := by
  rw [List.filter_map, List.length_map]; rfl
 rw [e, e2, h]
 have key : ∀ (m s : Nat), ((List.range' s m).filter fun i => decide (i = now)).length = if s ≤ now ∧ now < s + m then 1 else 0 := by
  intro m
  induction m with
  | zero => intro s; rw [if_neg (by omega)]; rfl
  | succ m ih =>
   intro s
   rw [List.range'_succ, List.filter_cons]
   by_cases c : s = now
   ·rw [if_pos (by simpa using c), List.length_cons, ih, if_neg (by omega), if_pos (by omega)]
   ·rw [if_neg (by simpa using c), ih]
    by_cases d : s + 1 ≤ now ∧ now < s + 1 + m
    ·rw [if_pos d, if_pos (by omega)]
    ·rw [if_neg d, if_neg (by omega)]
 rw [key]
 by_cases d : 1 ≤ now ∧ now ≤ m
 ·rw [if_pos d, if_pos (by omega)]
 ·rw [if_neg d, if_neg (by omega)]
theorem wn_hit {now i : Nat} (hi : i < od.length) (hw : Wn now od[i] = true) (h : (od.filter (Wn now)).length ≤ 1) : ((od.take i).filter (Wn now)).length = 0 := by
 have e : ((od.take (i + 1)).filter (Wn now)).length = ((od.take i).filter (Wn now)).length + 1 := by
  rw [List.take_succ_eq_append_getElem hi, List.filter_append, List.length_append, List.filter_cons_of_pos hw]; rfl
 have : ((od.take (i + 1)).filter (Wn now)).length ≤ (od.filter (Wn now)).length := ((List.take_sublist (i + 1) od).filter _).length_le
 omega
theorem OB.mono {c c' : Nat} (ob : OB B c) (h : c ≤ c') : OB B c' := ⟨ob.ai, ob.first, ob.txs, ob.nil, ob.sum, ob.sts, Nat.le_trans ob.next h⟩
theorem ob_new : OB (anew 0 []) 1 := ⟨ok_new.ai, rfl, rfl, rfl, Nat.le_refl _, by decide, Nat.le_refl _⟩
theorem replay_hs {oa : OA} {oc c : Nat} (iv : IV A lv od c) (hc : c ≤ 8192) (wf : SWf lv) (g : ∀ {h : Heap}, Hs h L → Hs h L)
    (last : ∀ {h2 : Heap} {B : AM}, OB B (2 ^ 37) → B.state = A.state → B.sts.length = A.sts.length → Hs h2 (manA q2 B :: manA q A :: Sp (lv.map lifeA) :: lvA oa oc od :: L) → (z252.K2 Q) (.exit 3) (z252.X3 (some ⟨q, 0, none⟩) (some ⟨q2, 0, none⟩)) h2) :
    ∀ (r now : Nat) {h2 : Heap} {B : AM}, now + r = A.sts.length → OB B (1 + now * 2 ^ 15) → B.sts.length = max now 1 → B.state = A.sta (B.sts.length - 1) → Hs h2 (manA q2 B :: manA q A :: Sp (lv.map lifeA) :: lvA oa oc od :: L) →
      z252.L2 (some ⟨q, 0, none⟩) oa od.length oc (some ⟨q2, 0, none⟩) (now : Nat) (z252.K2 Q) h2 := by
  have hbA := iv.ok.bd (by omega)
  have hsz := iv.ok.sz
  have hlenA := iv.ok.ai.len
  have hposA : 0 < A.sts.length := List.length_pos_iff.2 iv.ok.ai.ne
  have hfi := iv.si.first
  have hnowA : A.now = A.sts.length - 1 := by unfold AM.now; omega
  have hstA : A.sts.length ≤ 16386 := by
    unfold AM.sz at hsz; omega
  have hod := iv.len.2
  intro r
  induction r with
  | zero =>
    intro now h2 B hr ob hbl hbs H
    have : now = A.sts.length := by omega
    subst this
    refine z252.L2_of (MNow_hs hbA H.m1 ⟨_, rfl, y13 (decide_eq_false (by omega)) (last (ob.mono ?_) ?_ ?_ H)⟩)
    · have : A.sts.length * 2 ^ 15 ≤ 16386 * 2 ^ 15 := Nat.mul_le_mul_right _ hstA
      omega
    · rw [hbs, y157 iv.ok.ai, hbl]
      congr 1; omega
    · rw [hbl]; omega
  | succ r ih =>
    intro now h2 B hr ob hbl hbs H
    have hnb : now * 2 ^ 15 ≤ 16386 * 2 ^ 15 := Nat.mul_le_mul_right _ (by omega)
    have hnb2 : (now + 1) * 2 ^ 15 = now * 2 ^ 15 + 2 ^ 15 := by rw [Nat.add_mul, Nat.one_mul]
    have htot := wn_le (now := now) iv.at_
    have el : ∀ {i : Nat} (hi : i < od.length) {h : Heap} {M : List Assn} {R : Addr → Heap → Prop}, Hs h (lvA oa oc od :: M) → (∀ t, cellH h t = some (lp od[i]) → R t h) → hwp PP (Instr.indexAt y30 (.slice oa od.length oc) (.int .i64 (i : Nat))) (fun u h1 => ∃ t, u = .pointer (some t) ∧ R t h1) h := fun {i} hi {h M R} H K =>
      idx y103 H.rd (by omega) (by omega) (by rw [Int.toNat_natCast, List.getElem?_map, List.getElem?_eq_getElem hi]; rfl) K
    have mem : ∀ {i : Nat} (hi : i < od.length), ∃ j : Nat, lv[j]? = some od[i] := fun {i} hi => by
      obtain ⟨j, hj, e⟩ := List.getElem_of_mem (iv.mem _ (List.getElem_mem hi)).1
      exact ⟨j, by rw [List.getElem?_eq_getElem hj, e]⟩
    have go4 : ∀ (r' i : Nat) {h : Heap} {B : AM}, i + r' = od.length → OB B (1 + now * 2 ^ 15 + od.length + i) → B.sts.length = now + 1 → B.state = A.sta now → Hs h (manA q2 B :: manA q A :: Sp (lv.map lifeA) :: lvA oa oc od :: L) →
        z252.L4 (some ⟨q, 0, none⟩) oa od.length oc (some ⟨q2, 0, none⟩) (now : Nat) (i : Nat) (z252.K10 (z252.K2 Q)) h := by
      intro r'
      induction r' with
      | zero =>
        intro i h B hi ob hbl hbs H
        refine z252.L4_of (y13 (by simp; omega) (z252.L4_X7 ?_))
        dsimp only
        rw [show IntKind.i64.wrap ((now : Int) + 1) = ((now + 1 : Nat) : Int) by rw [y34 (by omega) (by omega)]; omega]
        exact ih (now + 1) (by omega) (ob.mono (by omega)) (by omega) (by rw [hbs, hbl]; rfl) H
      | succ r' ih4 =>
        intro i h B hi ob hbl hbs H
        have hil : i < od.length := by omega
        obtain ⟨j, hj⟩ := mem hil
        obtain ⟨hd, hsh, l', hrl, hor⟩ := (iv.mem _ (List.getElem_mem hil)).2
        have nxt : ∀ {h : Heap} {B : AM}, OB B (1 + now * 2 ^ 15 + od.length + (i + 1)) → B.sts.length = now + 1 → B.state = A.sta now → Hs h (manA q2 B :: manA q A :: Sp (lv.map lifeA) :: lvA oa oc od :: L) → z252.J7 (some ⟨q, 0, none⟩) oa od.length oc (some ⟨q2, 0, none⟩) (now : Nat) (i : Nat) false (z252.K10 (z252.K2 Q)) h := by
          intro h B ob hbl hbs H
          refine z252.J7_of (y13 rfl ?_)
          dsimp only
          rw [show IntKind.i64.wrap ((i : Int) + 1) = ((i + 1 : Nat) : Int) by rw [y34 (by omega) (by omega)]; omega]
          exact ih4 (i + 1) (by omega) ob hbl hbs H
        have no := nxt (h := h) (B := B) (ob.mono (by omega)) hbl hbs H
        refine z252.L4_of (y22 (by simp; omega) (el hil H.m3 fun t ht => ⟨_, ht, _, y174 (j := 2) H.m2 hj rfl, (y16 _ _ _).2 ⟨fun e => ?_, fun e => no⟩⟩))
        have e : od[i].at_ = now := by have : ((od[i].at_ : Nat) : Int) = (now : Int) := by simpa using e
                                       omega
        refine el hil H.m3 fun t2 ht2 => ⟨_, ht2, _, y174 (j := 3) H.m2 hj rfl, (y16 _ _ _).2 ⟨fun e2 => ?_, fun e2 => no⟩⟩
        have e2 : od[i].wrote = false := by simpa using e2
        refine el hil H.m3 fun t3 ht3 => ⟨_, ht3, ?_⟩
        rcases hor with ⟨w, _⟩ | ⟨w, hat, hrp, hst⟩
        · rw [e2] at w; cases w
        · rw [e, ← hbs] at hrp
          have hxl := iv.seen _ (iv.mem _ (List.getElem_mem hil)).1
          refine again_hs (x := od[i]) (l' := l') ob (by omega) hsh hrp (by omega) (wf _ (iv.mem _ (List.getElem_mem hil)).1) (.inr ⟨w, hst⟩) ((Hs.life H.m2 hj).sel 5 [2, 0, 1, 3, 4]) fun h5 ai H5 => ⟨_, rfl, ?_⟩
          have hob := ob.again ai (by rw [hst]; simp) (fun p => absurd hst p)
          have es : (agE B l').sts = B.sts := by unfold agE; rw [if_pos hst]
          have es2 : (agE B l').state = B.state := by unfold AM.state; rw [es]
          have H6 := Hs.unlife (x' := od[i]) hj (H5.sel 5 [1, 2, 0, 3, 4])
          rw [set_same hj] at H6
          exact nxt (hob.mono (by omega)) (by rw [es]; exact hbl) (by rw [es2]; exact hbs) (H6.sel 4 [1, 2, 0, 3])
    have go3 : ∀ (r' i : Nat) {h : Heap} {B : AM}, i + r' = od.length → OB B (1 + now * 2 ^ 15 + i) → B.sts.length = max now 1 + ((od.take i).filter (Wn now)).length → B.state = A.sta (B.sts.length - 1) → Hs h (manA q2 B :: manA q A :: Sp (lv.map lifeA) :: lvA oa oc od :: L) →
        z252.L3 (some ⟨q, 0, none⟩) oa od.length oc (some ⟨q2, 0, none⟩) (now : Nat) (i : Nat) (z252.K7 (z252.K2 Q)) h := by
      intro r'
      induction r' with
      | zero =>
        intro i h B hi ob hbl hbs H
        refine z252.L3_of (y13 (by simp; omega) (z252.L3_X5 ?_))
        rw [List.take_of_length_le (by omega), htot] at hbl
        have hbl2 : B.sts.length = now + 1 := by
          rw [hbl]
          by_cases c1 : 1 ≤ now
          · rw [if_pos ⟨c1, by omega⟩]; omega
          · rw [if_neg (fun p => c1 p.1)]; omega
        exact go4 od.length 0 (by omega) (ob.mono (by omega)) hbl2 (by rw [hbs, hbl2]; rfl) H
      | succ r' ih3 =>
        intro i h B hi ob hbl hbs H
        have hil : i < od.length := by omega
        obtain ⟨j, hj⟩ := mem hil
        obtain ⟨hd, hsh, l', hrl, hor⟩ := (iv.mem _ (List.getElem_mem hil)).2
        have et : ((od.take (i + 1)).filter (Wn now)).length = ((od.take i).filter (Wn now)).length + if Wn now od[i] then 1 else 0 := by
          rw [List.take_succ_eq_append_getElem hil, List.filter_append, List.length_append]
          cases hw : Wn now od[i] <;> simp [hw]
        have nxt : ∀ {h : Heap} {B : AM}, OB B (1 + now * 2 ^ 15 + (i + 1)) → B.sts.length = max now 1 + ((od.take (i + 1)).filter (Wn now)).length → B.state = A.sta (B.sts.length - 1) → Hs h (manA q2 B :: manA q A :: Sp (lv.map lifeA) :: lvA oa oc od :: L) → z252.J6 (some ⟨q, 0, none⟩) oa od.length oc (some ⟨q2, 0, none⟩) (now : Nat) (i : Nat) false (z252.K7 (z252.K2 Q)) h := by
          intro h B ob hbl hbs H
          refine z252.J6_of (y13 rfl ?_)
          dsimp only
          rw [show IntKind.i64.wrap ((i : Int) + 1) = ((i + 1 : Nat) : Int) by rw [y34 (by omega) (by omega)]; omega]
          exact ih3 (i + 1) (by omega) ob hbl hbs H
        have no : Wn now od[i] = false → z252.J6 (some ⟨q, 0, none⟩) oa od.length oc (some ⟨q2, 0, none⟩) (now : Nat) (i : Nat) false (z252.K7 (z252.K2 Q)) h := fun e =>
          nxt (h := h) (B := B) (ob.mono (by omega)) (by rw [et, e]; simpa using hbl) hbs H
        refine z252.L3_of (y22 (by simp; omega) (el hil H.m3 fun t ht => ⟨_, ht, _, y174 (j := 2) H.m2 hj rfl, (y16 _ _ _).2 ⟨fun e => ?_, fun e => no ?_⟩⟩))
        rotate_left
        · have e : od[i].at_ ≠ now := by have : ¬ ((od[i].at_ : Nat) : Int) = (now : Int) := by simpa using e
                                         omega
          unfold Wn; rw [decide_eq_false e]; simp
        have e : od[i].at_ = now := by have : ((od[i].at_ : Nat) : Int) = (now : Int) := by simpa using e
                                       omega
        refine el hil H.m3 fun t2 ht2 => ⟨_, ht2, _, y174 (j := 3) H.m2 hj rfl, (y16 _ _ _).2 ⟨fun e2 => ?_, fun e2 => no ?_⟩⟩
        rotate_left
        · unfold Wn; rw [e2]; rfl
        refine el hil H.m3 fun t3 ht3 => ⟨_, ht3, ?_⟩
        have hwn : Wn now od[i] = true := by unfold Wn; rw [e2, decide_eq_true e]; rfl
        have h0 := wn_hit hil hwn (by rw [htot]; split <;> omega)
        rw [h0] at hbl
        rcases hor with ⟨w, k, hk, hk2, hrp, hst, hfit, hnew⟩ | ⟨w, _⟩
        · have hkn : k + 1 = now := by omega
          have hbk : B.state = A.sta k := by rw [hbs, hbl]; congr 1; omega
          rw [← hbk] at hrp hfit hnew
          have hxl := iv.seen _ (iv.mem _ (List.getElem_mem hil)).1
          have hstl : l'.st.length ≤ 16384 := by
            have := hrp.more.2.2.2
            unfold Lf.seen at this
            rw [List.length_map] at this
            have e0 : (fresh od[i].tn).st.length = 0 := rfl
            omega
          refine again_hs (x := od[i]) (l' := l') ob (by omega) hsh hrp (by omega) (wf _ (iv.mem _ (List.getElem_mem hil)).1) (.inl ⟨w, hst, hfit⟩) ((Hs.life H.m2 hj).sel 5 [2, 0, 1, 3, 4]) fun h5 ai H5 => ⟨_, rfl, ?_⟩
          have hob := ob.again ai hstl (fun _ => by omega)
          have es : (agE B l').sts = B.sts ++ [sall B.state l'.st] := by unfold agE; rw [if_neg hst]
          have esl : (agE B l').sts.length = now + 1 := by rw [es]; simp; omega
          have es2 : (agE B l').state = A.sta now := by
            unfold AM.state
            rw [es, List.getLast?_concat]
            show sall B.state l'.st = _
            rw [← hnew, hkn]
          have H6 := Hs.unlife (x' := od[i]) hj (H5.sel 5 [1, 2, 0, 3, 4])
          rw [set_same hj] at H6
          exact nxt (hob.mono (by omega)) (by rw [esl, et, h0, hwn]; simp; omega) (by rw [es2, esl]; rfl) (H6.sel 4 [1, 2, 0, 3])
        · rw [w] at e2; cases e2
    refine z252.L2_of (MNow_hs hbA H.m1 ⟨_, rfl, y22 (decide_eq_true (by omega)) ?_⟩)
    exact go3 od.length 0 (by omega) (ob.mono (by omega)) (by rw [hbl]; simp) hbs H
theorem TxnSerial_spec {a : OA} {n c : Nat} {l : List OpV} (hr : Rd h a (l.flatMap opV)) (hn : l.length = n) (hw : ∀ o ∈ l, OpWf o) (hs : n < 2 ^ 62) (HQ : ∀ h', ExtB h.size h h' → Q (.bool true) h') :
  SpecH PP z253 [.slice a n c] h Q := by
 have fin : ∀ {h' : Heap} {M : List Assn}, Hs h' (ro h :: M) → Q (.bool true) h' := fun H => HQ _ H.ro_below
 refine z252.door (largeN_hs hs ⟨_, rfl, (y16 _ _ _).2 ⟨fun _ => awake_hs (Hs.start h) fun h' H' => ⟨_, rfl, fin H'⟩, fun e => ?_⟩⟩)
 have hn' : ¬ n > 4096 := of_decide_eq_false e
 refine emptyA_hs (Hs.start h) fun h1 q H1 => ⟨_, rfl, y13 rfl ?_⟩
 have g : Gv [ro h] a (l.flatMap opV) := Gv.ro hr
 have H2 : Hs h1 (stA q (anew 0 []) none 0 [] none 0 [] [ro h]) := by
  have G := (((Hs.app (L := [])).2 (H1.own_nil y65 1)).own_nil y65 1)
  exact G.sel 4 [3, 0, 1, 2]
 refine script_hs g hn (by omega) hw (fun {h2 A la oa lc oc lv od} iv wf H => ?_) n 0 (by omega) iv_new nofun H2
 refine z252.L1_X0 (emptyA_hs (H.sel 5 [0, 2, 3, 4]) fun h3 q2 H3 => ⟨_, rfl, y13 rfl ?_⟩)
 refine replay_hs (L := [ro h]) iv (by omega) wf (fun H => H) (fun {h4 B} ob hbs hbl H4 => ?_) A.sts.length 0 (by omega) ob_new rfl (by rw [show (anew 0 []).state = [] from rfl]; exact iv.si.nil.symm) H3
 refine z252.L2_X3 (awake_hs H4 fun h5 H5 => ⟨_, rfl, y22 rfl ?_⟩)
 have hbA := iv.ok.bd (by omega)
 have hbB := ob.bd (by omega)
 have hsz : A.state.length ≤ 2 ^ 30 := by
  obtain ⟨M, lk, _⟩ := y68.1 H5.m1
  exact state_le lk hbA
 obtain ⟨d1, d2, _⟩ := sdump_sum A.state
 refine MDump_hs hbA H5.m1 fun h6 b d H6 => ⟨_, _, _, rfl, MDump_hs hbB (H6.sel 3 [2, 0, 1]) fun h7 b2 dd2 H7 => ⟨_, _, _, rfl, ?_⟩⟩
 rw [hbs] at H7 ⊢
 refine Same_hs (a := b) (b := b2) (c := d) (d := dd2) (D := sdump A.state) (by omega) (fun x hx => ?_) (H7.sel 4 [2, 0, 1, 3]) fun h8 H8 => ⟨_, rfl, y22 rfl ?_⟩
 ·have := y163 (List.mem_map_of_mem (f := fun x : Arc => x.es.length) hx)
  unfold sumE at d2
  omega
 ·refine MNow_hs (q := q) hbA (H8.sel 4 [3]) ⟨_, rfl, MNow_hs (q := q2) hbB (H8.sel 4 [2]) ⟨_, rfl, ?_⟩⟩
  have : B.now = A.now := by unfold AM.now; rw [hbl, ob.first, iv.si.first]
  rw [this]
  simp only [beq_self_eq_true]
  exact fin (H8.sel 7 [6])
end Go.Proofs.YtglcanljknjcfaaGreatDoor

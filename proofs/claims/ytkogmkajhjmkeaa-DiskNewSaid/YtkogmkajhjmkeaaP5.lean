/- Texts of the proof, laid together: Chapter 09: same, large; DiskNew, DiskRuns.; Chapter 09: DiskStops.; Chapter 09: arguments opened: calls. -/
import Derived.Test.YtkogmkajhjmkeaaP4
import Derived.Test.YtkogmkajhjmkeaaP2
set_option maxRecDepth 20000
set_option linter.unusedVariables false
set_option linter.unusedSimpArgs false
namespace Go.Proofs.Ytkogmkajhjmkeaa
open Go Go.HW
variable {h : Heap} {L : List Assn} {Q : Value → Heap → Prop} {p s : Nat} {d : DS} {F : List (Nat × Obj)}
theorem read_len (hd : DI d) (n : Nm) : (d.read n).1.length ≤ 4194304 := by
  unfold DS.read; split
  · simp
  · split
    · simp
    · exact (hd.fl_ok _).2
theorem names_len (hd : DI d) : d.names.length ≤ d.steps := by
  unfold DS.names
  have := hd.lenn
  have := hd.fl
  split
  · simp
  · rw [List.length_map]; omega
theorem same_hs (hd : DI d) (hb : d.steps < 2 ^ 30) (H : Hs h (diskA p d :: refA s d F :: frz F :: L)) (kk : ∀ h', Hs h' (diskA p d :: refA s d F :: frz F :: L) → Q (.bool true) h') :
    SpecH PP F_law09_same [.pointer (some ⟨p, 0, none⟩), .pointer (some ⟨s, 0, none⟩)] h Q := by
  have hnl := names_len hd
  refine law09_same.door (Names_hs hd (by omega) H fun h1 a1 c1 H1 => ⟨_, _, _, rfl, ?_⟩)
  -- 0 own 1 disk 2 ref 3 frz
  refine RNames_hs hd (by omega) (H1.m2) fun h2 a2 c2 H2 => ⟨_, _, _, rfl, ?_⟩
  -- 0 own2 1 ref 2 own 3 disk 4 frz
  refine texts_hs (H2.m2.rd) H2.rd rfl rfl (by omega) (fun _ => ⟨_, rfl, br_false rfl ?_⟩) rfl
  refine Used_hs hd (by omega) (H2.m3) fun h3 H3 => ⟨_, rfl, ?_⟩
  -- 0 disk 1 own2 2 ref 3 own 4 frz
  refine RUsed2_hs (F := F) hd (by omega) (H3.m2) ⟨_, rfl, br_false (by simp) ?_⟩
  have fin : law09_same.J1 (some ⟨p, 0, none⟩) (some ⟨s, 0, none⟩) a2 d.names.length c2 false Q h3 := by
    refine law09_same.J1_of (br_false rfl ?_)
    have go : ∀ (q i : Nat) {h : Heap}, i + q = d.names.length → Hs h (diskA p d :: own a2 d.names.length c2 T_string 1 (d.names.map Value.string) :: refA s d F :: frz F :: L) →
        law09_same.L1 (some ⟨p, 0, none⟩) (some ⟨s, 0, none⟩) a2 d.names.length c2 (i : Nat) (law09_same.K2 Q) h := by
      intro q
      induction q with
      | zero =>
        intro i h hi H
        exact law09_same.L1_of (br_false (decide_eq_false (by omega)) (law09_same.L1_X0 (kk h (H.sel 4 [0, 2, 3]))))
      | succ q ih =>
        intro i h hi H
        have hin : i < d.names.length := by omega
        refine law09_same.L1_of (br_true (decide_eq_true (by omega)) ?_)
        refine idx E_sl_string (v := .string d.names[i]) H.m1.rd (by omega) (by omega) (by rw [Int.toNat_natCast, List.getElem?_map, List.getElem?_eq_getElem hin]; rfl) fun t ht => ⟨_, ht, ?_⟩
        refine ReadZ_hs hd H fun h4 a4 c4 hc4 H4 => ⟨_, _, _, _, rfl, ?_⟩
        -- 0 ownB 1 disk 2 own2 3 ref 4 frz
        refine idx E_sl_string (v := .string d.names[i]) H4.m2.rd (by omega) (by omega) (by rw [Int.toNat_natCast, List.getElem?_map, List.getElem?_eq_getElem hin]; rfl) fun t2 ht2 => ⟨_, ht2, ?_⟩
        refine RRead_hs (F := F) hd (H4.sel 5 [3, 4, 0, 1, 2]) (by omega) fun a5 c5 g5 h5n h5c => ⟨_, _, _, _, rfl, br_false (by simp) ?_⟩
        have hrl := read_len hd d.names[i]
        refine keepBytes_spec (H4.ownB_own.rd) (g5 _ (Hs.one H4.m4)) rfl rfl (by omega) ⟨_, rfl, ?_⟩
        rw [decide_eq_true rfl]
        refine law09_same.J2_of (br_false rfl (spoil_hs hc4 H4 fun h6 H6 => ⟨rfl, ?_⟩))
        dsimp only
        rw [inc (by omega)]
        exact ih (i + 1) (by omega) H6
    exact go d.names.length 0 (by omega) (H3.sel 5 [0, 1, 2, 4])
  obtain ⟨fs, r, k, H4⟩ := refA_open.1 (H3.m2)
  have hst := H4.cell (off := 5) rfl
  refine ⟨?_, ⟨_, hst, ?_⟩, trivial⟩
  · refine Steps_hs H3 ⟨_, rfl, _, hst, br_false (by simp) ?_⟩
    refine DDown_hs H3 ⟨_, rfl, RDown_hs H4 ⟨_, rfl, ?_⟩⟩
    rw [show (!(d.down == d.down)) = false by simp]
    exact fin
  · refine Steps_hs H3 ⟨_, rfl, br_false (by simp) ?_⟩
    refine DDown_hs H3 ⟨_, rfl, RDown_hs H4 ⟨_, rfl, ?_⟩⟩
    rw [show (!(d.down == d.down)) = false by simp]
    exact fin
theorem large_hs {a : OA} {n c : Nat} {ops : List Op} (g : Gv L a (ops.flatMap opV)) (hn : ops.length = n) (H : Hs h L) (k1 : ∀ h', Hs h' L → Q (.bool true) h') (k2 : ops.length ≤ 1000 → (∀ o ∈ ops, OpSm o) → ∀ h', Hs h' L → Q (.bool false) h') :
    SpecH PP F_law09_large [.slice a n c] h Q := by
  refine law09_large.door ((br_iff _ _ _).2 ⟨fun e => k1 h H, fun e => ?_⟩)
  have e := of_decide_eq_false e
  have go : ∀ (q i : Nat) {h : Heap}, i + q = n → (∀ o ∈ ops.take i, OpSm o) → Hs h L → law09_large.L1 a n c (i : Nat) (law09_large.K1 Q) h := by
    intro q
    induction q with
    | zero =>
      intro i h hi hs H
      rw [List.take_of_length_le (by omega)] at hs
      exact law09_large.L1_of (br_false (decide_eq_false (by omega)) (law09_large.L1_X0 (k2 (by omega) hs h H)))
    | succ q ih =>
      intro i h hi hs H
      have hin : i < ops.length := by omega
      refine law09_large.L1_of (br_true (decide_eq_true (by omega)) ?_)
      refine idxf E_sl_haversacklaw09_Op (φ := opV) (l := ops) (x := ops[i]) (g _ H) opV_len (by decide) (by omega) (by omega) (by rw [Int.toNat_natCast, List.getElem?_eq_getElem hin]) fun t ht => ⟨_, _, _, _, _, _, _, _, _, _, ht, ?_⟩
      have H1 := H.new (t := T_haversacklaw09_Op) (cs := #[(.int .i64 0), (.string (⟨#[]⟩ : ByteArray)), (.string (⟨#[]⟩ : ByteArray)), (.slice none 0 0), (.int .i64 0), (.slice none 0 0)]) (xs := [(.int .i64 0), (.string (⟨#[]⟩ : ByteArray)), (.string (⟨#[]⟩ : ByteArray)), (.slice none 0 0), (.int .i64 0), (.slice none 0 0)])
      dsimp only
      generalize Array.size h = k at H1 ⊢
      generalize Array.push h _ = h1 at H1 ⊢
      refine Hs.wrs (b := k) (vs := opV ops[i]) H1 (fun h3 H3 => ?_) rfl (opV_one _)
      have yes : law09_large.J1 a n c (i : Nat) true (law09_large.K1 Q) h3 := law09_large.J1_of (br_true rfl (law09_large.L1_Xret (k1 h3 H3.tl)))
      refine ⟨_, _, _, H3.cell (off := 3) rfl, (br_iff _ _ _).2 ⟨fun _ => yes, fun e1 => ⟨_, _, _, H3.cell (off := 5) rfl, (br_iff _ _ _).2 ⟨fun _ => yes, fun e2 => ⟨_, H3.cell (off := 1) rfl, (br_iff _ _ _).2 ⟨fun _ => yes, fun e3 => ⟨_, H3.cell (off := 2) rfl, ?_⟩⟩⟩⟩⟩⟩⟩
      have e1 := of_decide_eq_false e1
      have e2 := of_decide_eq_false e2
      have e3 := of_decide_eq_false e3
      by_cases e4 : ((ops[i].To.size : Nat) : Int) > 65536
      · rw [decide_eq_true e4]; exact yes
      · rw [decide_eq_false e4]
        refine law09_large.J1_of (br_false rfl ?_)
        rw [inc (by omega)]
        refine ih (i + 1) (by omega) (fun o ho => ?_) H3.tl
        rw [List.take_succ_eq_append_getElem hin] at ho
        rcases List.mem_append.1 ho with q | q
        · exact hs o q
        · rw [List.mem_singleton.1 q]; exact ⟨by omega, by omega, by omega, by omega⟩
  exact go n 0 (by omega) (by simp) H
theorem DiskNew_spec {room : Int} (HQ : ∀ h', ExtB h.size h h' → Q (.bool true) h') : SpecH PP F_law09_DiskNew [.int .i64 room] h Q := by
  have fin : ∀ {h' : Heap} {M : List Assn}, Hs h' (ro h :: M) → Q (.bool true) h' := fun H => HQ _ H.ro_below
  refine law09_DiskNew.door (New_hs (Hs.start h) (fun e => ⟨_, _, rfl, ?_⟩) fun r1 r2 h1 p H1 => ⟨_, _, rfl, ?_⟩)
  · have bad : law09_DiskNew.J1 room none 1 true Q h := law09_DiskNew.J1_of (br_true rfl (awake_hs (Hs.start h) fun h2 H2 => ⟨_, rfl, br_true rfl (br_true rfl (fin H2))⟩))
    refine (br_iff _ _ _).2 ⟨fun _ => bad, fun e1 => ?_⟩
    have e1 := of_decide_eq_false e1
    dsimp only
    rw [decide_eq_true (by omega)]
    exact bad
  · refine br_false (decide_eq_false (by omega)) ?_
    dsimp only
    rw [decide_eq_false (by omega)]
    refine law09_DiskNew.J1_of (br_false rfl (awake_hs H1 fun h2 H2 => ⟨_, rfl, br_true rfl (br_true rfl (br_true rfl ?_))⟩))
    refine RNew_hs (F := []) r1 (frz_nil H2) fun h3 s H3 => ⟨_, rfl, ?_⟩
    have hd : DI (dnew room.toNat) := di_new ⟨by omega, by omega⟩
    refine same_hs (F := []) hd (show 0 < 2 ^ 30 by decide) (H3.sel 3 [2, 0, 1]) fun h4 H4 => ⟨_, rfl, fin (H4.sel 4 [3])⟩
theorem DiskRuns_spec {room : Int} {a : OA} {n c : Nat} {ops : List Op} (hr : Rd h a (ops.flatMap opV)) (hn : ops.length = n) (hok : ∀ o ∈ ops, OpOk [ro h] o) (HQ : ∀ h', ExtB h.size h h' → Q (.bool true) h') : SpecH PP F_law09_DiskRuns [.int .i64 room, .slice a n c] h Q := by
  have fin : ∀ {h' : Heap} {M : List Assn}, Hs h' (ro h :: M) → Q (.bool true) h' := fun H => HQ _ H.ro_below
  have g : Gv [ro h] a (ops.flatMap opV) := Gv.ro hr
  have yes : ∀ {h' : Heap}, Hs h' [ro h] → law09_DiskRuns.J1 room a n c true Q h' := fun H => law09_DiskRuns.J1_of (br_true rfl (awake_hs H fun h2 H2 => ⟨_, rfl, fin H2⟩))
  refine law09_DiskRuns.door (large_hs g hn (Hs.start h) (fun h1 H1 => ⟨_, rfl, br_true rfl (yes H1)⟩) fun hl hs h1 H1 => ⟨_, rfl, br_false rfl ?_⟩)
  refine (br_iff _ _ _).2 ⟨fun _ => yes H1, fun e1 => ?_⟩
  have e1 := of_decide_eq_false e1
  dsimp only
  by_cases e2 : room > 4194304
  · rw [decide_eq_true e2]; exact yes H1
  rw [decide_eq_false e2]
  refine law09_DiskRuns.J1_of (br_false rfl (New_hs H1 (fun e => by omega) fun r1 r2 h2 p H2 => ⟨_, _, rfl, br_false rfl (law09_DiskRuns.J2_of (br_false rfl ?_))⟩))
  refine RNew_hs (F := []) r1 (frz_nil H2) fun h3 s H3 => ⟨_, rfl, ?_⟩
  have hd0 : DI (dnew room.toNat) := di_new ⟨by omega, by omega⟩
  -- the elder disk: either the same, or one of its own
  have eld : ∀ {h' : Heap} {p s : Nat} {d : DS} {p2 s2 : Nat} {d2 : DS} {F F' : List (Nat × Obj)} {E : List Assn}, Le F F' → ((p2 = p ∧ s2 = s ∧ E = []) ∨ E = [diskA p2 d2, refA s2 d2 F]) → Hs h' (diskA p d :: refA s d F' :: frz F' :: (E ++ [ro h])) →
      ∃ E' d2', ((p2 = p ∧ s2 = s ∧ d2' = d ∧ E' = []) ∨ (d2' = d2 ∧ E' = [diskA p2 d2', refA s2 d2' F'])) ∧ Hs h' (diskA p d :: refA s d F' :: frz F' :: (E' ++ [ro h])) := by
    intro h' p s d p2 s2 d2 F F' E hl hE H
    rcases hE with ⟨e1, e2, e3⟩ | e
    · subst e3; exact ⟨[], d, .inl ⟨e1, e2, rfl, rfl⟩, H⟩
    · subst e
      refine ⟨_, d2, .inr ⟨rfl, rfl⟩, ?_⟩
      have H : Hs h' (diskA p d :: refA s d F' :: frz F' :: diskA p2 d2 :: refA s2 d2 F :: [ro h]) := H
      have := refA_mono hl (H.sel 5 [4, 0, 1, 2, 3])
      exact this.sel 5 [1, 2, 3, 4, 0]
  have go : ∀ (q i : Nat) {h' : Heap} {p s : Nat} {d : DS} {p2 s2 : Nat} {d2 : DS} {F : List (Nat × Obj)} {E : List Assn}, i + q = n → DI d → DI d2 → d.steps ≤ i → d2.steps ≤ i →
      ((p2 = p ∧ s2 = s ∧ d2 = d ∧ E = []) ∨ E = [diskA p2 d2, refA s2 d2 F]) → Hs h' (diskA p d :: refA s d F :: frz F :: (E ++ [ro h])) → law09_DiskRuns.L1 a n c (some ⟨p, 0, none⟩) (some ⟨s, 0, none⟩) (some ⟨p2, 0, none⟩) (some ⟨s2, 0, none⟩) (i : Nat) (law09_DiskRuns.K3 Q) h' := by
    intro q
    induction q with
    | zero =>
      intro i h' p s d p2 s2 d2 F E hi hd hd2 hst hst2 hE H
      refine law09_DiskRuns.L1_of (br_false (decide_eq_false (by omega)) (law09_DiskRuns.L1_X0 (awake_hs H fun h2 H2 => ⟨_, rfl, br_true rfl ?_⟩)))
      rcases hE with ⟨e1, e2, e3, e4⟩ | e
      · subst e1 e2 e3 e4
        exact same_hs hd2 (by omega) H2 fun h3 H3 => ⟨_, rfl, fin (H3.sel 4 [3])⟩
      · subst e
        have H2 : Hs h2 (diskA p d :: refA s d F :: frz F :: diskA p2 d2 :: refA s2 d2 F :: [ro h]) := H2
        exact same_hs hd2 (by omega) (H2.sel 6 [3, 4, 2, 5]) fun h3 H3 => ⟨_, rfl, fin (H3.sel 4 [3])⟩
    | succ q ih =>
      intro i h' p s d p2 s2 d2 F E hi hd hd2 hst hst2 hE H
      have hin : i < ops.length := by omega
      have gE : ∀ {E : List Assn} {p2 s2 : Nat} {d2 : DS} {F : List (Nat × Obj)} {xs : List Value} {a : OA}, (E = [] ∨ E = [diskA p2 d2, refA s2 d2 F]) → Gv [ro h] a xs → Gv (E ++ [ro h]) a xs := by
        intro E p2 s2 d2 F xs a e g
        rcases e with e | e
        · subst e; exact g
        · subst e; exact g.cons.cons
      have j3 : ∀ {h' : Heap} {p s : Nat} {d : DS} {p2 s2 : Nat} {d2 : DS} {E : List Assn}, DI d → DI d2 → d.steps ≤ i → d2.steps ≤ i →
          ((p2 = p ∧ s2 = s ∧ d2 = d ∧ E = []) ∨ E = [diskA p2 d2, refA s2 d2 F]) → Hs h' (diskA p d :: refA s d F :: frz F :: (E ++ [ro h])) → law09_DiskRuns.J3 a n c (some ⟨p, 0, none⟩) (some ⟨s, 0, none⟩) (some ⟨p2, 0, none⟩) (some ⟨s2, 0, none⟩) (i : Nat) (law09_DiskRuns.K3 Q) h' := by
        intro h' p s d p2 s2 d2 E hd hd2 hst hst2 hE H
        have hE0 : E = [] ∨ E = [diskA p2 d2, refA s2 d2 F] := hE.imp (fun e => e.2.2.2) id
        refine law09_DiskRuns.J3_of ?_
        have gg : Gv (E ++ [ro h]) a (ops.flatMap opV) := gE hE0 g
        refine idxf E_sl_haversacklaw09_Op (φ := opV) (l := ops) (x := ops[i]) (gg _ H.tl.tl.tl) opV_len (by decide) (by omega) (by omega) (by rw [Int.toNat_natCast, List.getElem?_eq_getElem hin]) fun t ht => ⟨_, _, _, _, _, _, _, _, _, _, ht, ?_⟩
        have ok := hok _ (List.getElem_mem hin)
        have sm := hs _ (List.getElem_mem hin)
        have ok2 : OpOk (E ++ [ro h]) ops[i] := ⟨gE hE0 ok.gb, ok.nb, gE hE0 ok.gc, ok.nc, ok.lc, ok.n, ok.cs⟩
        refine lawstep_hs ok2 sm hd (by omega) H fun h4 F' hF' H4 => ⟨_, rfl, br_false rfl ?_⟩
        have hd' := hd.opr (o := ops[i]) ok.n
        have hst' := opr_steps (d := d) ops[i]
        obtain ⟨E', d2', hE', H5⟩ := eld hF' (hE.imp (fun e => ⟨e.1, e.2.1, e.2.2.2⟩) id) H4
        refine same_hs hd' (by omega) H5 fun h6 H6 => ⟨_, rfl, ?_⟩
        refine law09_DiskRuns.J4_of (br_false rfl ?_)
        rw [inc (by omega)]
        refine ih (i + 1) (d2 := d2') (by omega) hd' ?_ (by omega) ?_ (hE'.imp id (fun e => e.2)) H6
        · rcases hE' with e | e
          · rw [e.2.2.1]; exact hd'
          · rw [e.1]; exact hd2
        · rcases hE' with e | e
          · rw [e.2.2.1]; omega
          · rw [e.1]; omega
      refine law09_DiskRuns.L1_of (br_true (decide_eq_true (by omega)) ?_)
      have gg : Gv (E ++ [ro h]) a (ops.flatMap opV) := gE (hE.imp (fun e => e.2.2.2) id) g
      refine idxf E_sl_haversacklaw09_Op (φ := opV) (l := ops) (x := ops[i]) (gg _ H.tl.tl.tl) opV_len (by decide) (by omega) (by omega) (by rw [Int.toNat_natCast, List.getElem?_eq_getElem hin]) fun t ht => ⟨_, (by have := ht.1; rwa [show Addr.add t 0 = t from by cases t; rfl] at this), (br_iff _ _ _).2 ⟨fun e => ?_, fun e => j3 hd hd2 hst hst2 hE H⟩⟩
      refine Clone_hs hd (by omega) H fun h4 x H4 => ⟨_, rfl, ?_⟩
      -- x, p, ref, frz, E
      refine RClone_hs (F := F) hd (by omega) (H4.m2) fun h5 y H5 => ⟨_, rfl, br_false rfl ?_⟩
      -- 0 ref y 1 ref s 2 disk x 3 disk p 4 frz
      refine j3 (E := [diskA p d, refA s d F]) hd hd hst hst (.inr rfl) ?_
      have H6 := H5.sel 5 [2, 0, 4, 3, 1]
      rcases hE with e | e
      · rw [e.2.2.2] at H6; exact H6
      · rw [e] at H6
        have H6 : Hs h5 (diskA x d :: refA y d F :: frz F :: diskA p d :: refA s d F :: diskA p2 d2 :: refA s2 d2 F :: [ro h]) := H6
        exact H6.sel 7 [0, 1, 2, 3, 4]
  exact go n 0 (E := []) (by omega) hd0 hd0 (Nat.le_refl _) (Nat.le_refl _) (.inl ⟨rfl, rfl, rfl, rfl⟩) (H3.sel 3 [2, 0, 1])
end Go.Proofs.Ytkogmkajhjmkeaa

set_option maxRecDepth 20000
set_option linter.unusedVariables false
set_option linter.unusedSimpArgs false
namespace Go.Proofs.Ytkogmkajhjmkeaa
open Go Go.HW
variable {h : Heap} {L : List Assn} {Q : Value → Heap → Prop} {p s : Nat} {d : DS} {F : List (Nat × Obj)}
/-- The disk that stops behind N steps, of one that does not. -/
def stp (N : Nat) (x : DS) : DS := { x with left := some (N - x.steps) }
section
variable {x : DS} {N : Nat}
structure St (N : Nat) (d x : DS) : Prop where
  e : d = stp N x
  l : x.left = none
theorem stp_down (hm : x.steps < N) : (stp N x).down = false := by simp [stp, DS.down]; omega
theorem none_down (hl : x.left = none) : x.down = false := by simp [DS.down, hl]
theorem St.same (hl : x.left = none) : St N (stp N x) x := ⟨rfl, hl⟩
theorem St.tick {y : DS} (hl : y.left = none) : St N (stp N y).tick y.tick := ⟨by simp [stp, DS.tick, Nat.sub_sub], by simp [DS.tick, hl]⟩
theorem St.change (hl : x.left = none) (c : Chg) : St N ((stp N x).change c) (x.change c) := by
  unfold DS.change
  exact St.tick (N := N) (y := { x with now := ap x.now c, chg := x.chg ++ [c] }) hl
theorem St.create (hl : x.left = none) (hm : x.steps < N) (n : Nm) : St N ((stp N x).create n).1 (x.create n).1 := by
  unfold DS.create
  have n1 : ¬ (stp N x).down = true := by rw [stp_down hm]; simp
  have n2 : ¬ x.down = true := by rw [none_down hl]; simp
  rw [if_neg n1, if_neg n2]
  by_cases h1 : good n = false
  · rw [if_pos h1, if_pos h1]; exact .same hl
  rw [if_neg h1, if_neg h1]
  by_cases h2 : (x.find n).isSome
  · rw [if_pos (show ((stp N x).find n).isSome = true from h2), if_pos h2]; exact .same hl
  rw [if_neg (show ¬ ((stp N x).find n).isSome = true from h2), if_neg h2]
  by_cases h3 : 64 ≤ x.now.length
  · rw [if_pos (show 64 ≤ (stp N x).now.length from h3), if_pos h3]; exact .same hl
  rw [if_neg (show ¬ 64 ≤ (stp N x).now.length from h3), if_neg h3]
  exact St.change (N := N) (x := { x with files := x.files ++ [fil0] }) hl _
theorem St.append (hl : x.left = none) (hm : x.steps < N) (n : Nm) (b : List Nat) : St N ((stp N x).append n b).1 (x.append n b).1 := by
  unfold DS.append
  have n1 : ¬ (stp N x).down = true := by rw [stp_down hm]; simp
  have n2 : ¬ x.down = true := by rw [none_down hl]; simp
  rw [if_neg n1, if_neg n2]
  have hf : (stp N x).find n = x.find n := rfl
  rw [hf]
  cases x.find n with
  | none => exact .same hl
  | some i =>
    have hu : (stp N x).used = x.used := by unfold DS.used; rw [if_neg n1, if_neg n2]; rfl
    simp only [hu]
    by_cases h1 : (x.room : Int) - x.used < b.length
    · rw [if_pos (show ((stp N x).room : Int) - x.used < b.length from h1), if_pos h1]; exact .same hl
    · rw [if_neg (show ¬ ((stp N x).room : Int) - x.used < b.length from h1), if_neg h1]
      exact St.tick (N := N) (y := { x with files := x.files.set i ⟨(x.fl i).bs ++ b, (x.fl i).safe⟩ }) hl
theorem St.sync (hl : x.left = none) (hm : x.steps < N) (n : Nm) : St N ((stp N x).sync n).1 (x.sync n).1 := by
  unfold DS.sync
  have n1 : ¬ (stp N x).down = true := by rw [stp_down hm]; simp
  have n2 : ¬ x.down = true := by rw [none_down hl]; simp
  rw [if_neg n1, if_neg n2]
  have hf : (stp N x).find n = x.find n := rfl
  rw [hf]
  cases x.find n with
  | none => exact .same hl
  | some i => exact St.tick (N := N) (y := { x with files := x.files.set i ⟨(x.fl i).bs, (x.fl i).bs.length⟩ }) hl
theorem St.rename (hl : x.left = none) (hm : x.steps < N) (n m : Nm) : St N ((stp N x).rename n m).1 (x.rename n m).1 := by
  unfold DS.rename
  have n1 : ¬ (stp N x).down = true := by rw [stp_down hm]; simp
  have n2 : ¬ x.down = true := by rw [none_down hl]; simp
  rw [if_neg n1, if_neg n2]
  have hf : (stp N x).find n = x.find n := rfl
  rw [hf]
  cases x.find n with
  | none => exact .same hl
  | some i =>
    dsimp only
    by_cases h1 : good m = false
    · rw [if_pos h1, if_pos h1]; exact .same hl
    · rw [if_neg h1, if_neg h1]; exact St.change hl _
theorem St.remove (hl : x.left = none) (hm : x.steps < N) (n : Nm) : St N ((stp N x).remove n).1 (x.remove n).1 := by
  unfold DS.remove
  have n1 : ¬ (stp N x).down = true := by rw [stp_down hm]; simp
  have n2 : ¬ x.down = true := by rw [none_down hl]; simp
  rw [if_neg n1, if_neg n2]
  have hf : (stp N x).find n = x.find n := rfl
  rw [hf]
  cases x.find n with
  | none => exact .same hl
  | some i => exact St.change hl _
theorem St.syncdir (hl : x.left = none) (hm : x.steps < N) : St N (stp N x).syncdir.1 x.syncdir.1 := by
  unfold DS.syncdir
  have n1 : ¬ (stp N x).down = true := by rw [stp_down hm]; simp
  have n2 : ¬ x.down = true := by rw [none_down hl]; simp
  rw [if_neg n1, if_neg n2]
  exact St.tick (N := N) (y := { x with safe := x.now, chg := [] }) hl
theorem St.opr {d : DS} (h : St N d x) (hm : x.steps < N) {o : Op} (h8 : o.k ≠ 8) (h9 : o.k ≠ 9) : St N (opr d o) (opr x o) := by
  obtain ⟨rfl, hl⟩ := h
  unfold Go.Proofs.Ytkogmkajhjmkeaa.opr
  by_cases q : o.k = 1
  · rw [if_pos q, if_pos q]; exact .create hl hm _
  rw [if_neg q, if_neg q]; clear q
  by_cases q : o.k = 2
  · rw [if_pos q, if_pos q]; exact .append hl hm _ _
  rw [if_neg q, if_neg q]; clear q
  by_cases q : o.k = 3
  · rw [if_pos q, if_pos q]; exact .sync hl hm _
  rw [if_neg q, if_neg q]; clear q
  by_cases q : o.k = 4
  · rw [if_pos q, if_pos q]; exact .rename hl hm _ _
  rw [if_neg q, if_neg q]; clear q
  by_cases q : o.k = 5
  · rw [if_pos q, if_pos q]; exact .remove hl hm _
  rw [if_neg q, if_neg q]; clear q
  by_cases q : o.k = 6
  · rw [if_pos q, if_pos q]; exact .syncdir hl hm
  rw [if_neg q, if_neg q]; clear q
  by_cases q : o.k = 7
  · rw [if_pos q, if_pos q]; exact .same hl
  rw [if_neg q, if_neg q, if_neg h8, if_neg h8, if_neg h9, if_neg h9]
  exact .same hl
end
/-- One call, without a look. -/
theorem play1_hs {o : Op} {a : OA} {c : Nat} (g : Gv L a (opV o)) (ok : OpOk L o) (sm : OpSm o) (hd : DI d) (hb : d.steps < 2 ^ 30) (H : Hs h (diskA p d :: L)) (kk : ∀ h', Hs h' (diskA p (opr d o) :: L) → Q (.tuple #[]) h') :
    SpecH PP F_law09_play [.pointer (some ⟨p, 0, none⟩), .slice a 1 c] h Q := by
  have hA : o.A.size < 2 ^ 60 := by have := sm.a; omega
  have hT : o.To.size < 2 ^ 60 := by have := sm.t; omega
  have hB := sm.b
  have hC := sm.c
  refine law09_play.door ?_
  have e0 : ([o].flatMap opV) = opV o := by simp
  refine law09_play.L1_of (br_true rfl ?_)
  refine idxf E_sl_haversacklaw09_Op (φ := opV) (l := [o]) (x := o) (by rw [e0]; exact g _ H.tl) opV_len (by decide) (by decide) (by decide) rfl fun t ht => ⟨_, _, _, _, _, _, _, _, _, _, ht, ?_⟩
  have H1 := H.new (t := T_haversacklaw09_Op) (cs := #[(.int .i64 0), (.string (⟨#[]⟩ : ByteArray)), (.string (⟨#[]⟩ : ByteArray)), (.slice none 0 0), (.int .i64 0), (.slice none 0 0)]) (xs := [(.int .i64 0), (.string (⟨#[]⟩ : ByteArray)), (.string (⟨#[]⟩ : ByteArray)), (.slice none 0 0), (.int .i64 0), (.slice none 0 0)])
  dsimp only
  generalize Array.size h = k at H1 ⊢
  generalize Array.push h _ = h1 at H1 ⊢
  refine Hs.wrs (b := k) (vs := opV o) H1 (fun h3 H3 => ?_) rfl (opV_one _)
  have fin : ∀ {h4 : Heap} {d' : DS}, opr d o = d' → Hs h4 (diskA p d' :: pt k T_haversacklaw09_Op (opV o) :: L) → law09_play.J1 (some ⟨p, 0, none⟩) a 1 c 0 (law09_play.K1 Q) h4 := by
    intro h4 d' e H
    subst e
    refine law09_play.J1_of (law09_play.L1_of (br_false rfl (law09_play.L1_X0 (kk h4 (H.sel 2 [0])))))
  refine ⟨_, H3.cell (off := 0) rfl, ?_⟩
  by_cases q1 : o.k = 1
  · have er : opr d o = (d.create o.A).1 := by unfold opr; rw [if_pos q1]
    rw [q1]
    exact br_true rfl ⟨_, H3.cell (off := 1) rfl, Create_hs hd (by omega) hA H3.m1 fun h4 H4 => ⟨_, rfl, fin er H4⟩⟩
  rw [show (o.k == 1) = false by simpa using q1]
  refine br_false rfl ?_
  by_cases q2 : o.k = 2
  · have er : opr d o = (d.append o.A o.bs).1 := by unfold opr; rw [if_neg q1, if_pos q2]
    rw [q2]
    exact br_true rfl ⟨_, H3.cell (off := 1) rfl, _, _, _, H3.cell (off := 3) rfl, Append_hs (bs := o.bs) hd (by omega) ok.gb.cons rfl (by omega) ok.nb H3.m1 fun h4 H4 => ⟨_, rfl, fin er H4⟩⟩
  rw [show (o.k == 2) = false by simpa using q2]
  refine br_false rfl ?_
  by_cases q3 : o.k = 3
  · have er : opr d o = (d.sync o.A).1 := by unfold opr; rw [if_neg q1, if_neg q2, if_pos q3]
    rw [q3]
    exact br_true rfl ⟨_, H3.cell (off := 1) rfl, Sync_hs hd (by omega) H3.m1 fun h4 H4 => ⟨_, rfl, fin er H4⟩⟩
  rw [show (o.k == 3) = false by simpa using q3]
  refine br_false rfl ?_
  by_cases q4 : o.k = 4
  · have er : opr d o = (d.rename o.A o.To).1 := by unfold opr; rw [if_neg q1, if_neg q2, if_neg q3, if_pos q4]
    rw [q4]
    exact br_true rfl ⟨_, H3.cell (off := 1) rfl, _, H3.cell (off := 2) rfl, Rename_hs hd (by omega) hT H3.m1 fun h4 H4 => ⟨_, rfl, fin er H4⟩⟩
  rw [show (o.k == 4) = false by simpa using q4]
  refine br_false rfl ?_
  by_cases q5 : o.k = 5
  · have er : opr d o = (d.remove o.A).1 := by unfold opr; rw [if_neg q1, if_neg q2, if_neg q3, if_neg q4, if_pos q5]
    rw [q5]
    exact br_true rfl ⟨_, H3.cell (off := 1) rfl, Remove_hs hd (by omega) H3.m1 fun h4 H4 => ⟨_, rfl, fin er H4⟩⟩
  rw [show (o.k == 5) = false by simpa using q5]
  refine br_false rfl ?_
  by_cases q6 : o.k = 6
  · have er : opr d o = d.syncdir.1 := by unfold opr; rw [if_neg q1, if_neg q2, if_neg q3, if_neg q4, if_neg q5, if_pos q6]
    rw [q6]
    exact br_true rfl (SyncDir_hs hd (by omega) H3.m1 fun h4 H4 => ⟨_, rfl, fin er H4⟩)
  rw [show (o.k == 6) = false by simpa using q6]
  refine br_false rfl ?_
  by_cases q8 : o.k = 8
  · have q7 : o.k ≠ 7 := by omega
    have er : opr d o = (d.stop o.N).1 := by unfold opr; rw [if_neg q1, if_neg q2, if_neg q3, if_neg q4, if_neg q5, if_neg q6, if_neg q7, if_pos q8]
    rw [q8]
    exact br_true rfl ⟨_, H3.cell (off := 4) rfl, Stop_hs ok.n H3.m1 fun h4 H4 => ⟨_, rfl, fin er H4⟩⟩
  rw [show (o.k == 8) = false by simpa using q8]
  refine br_false rfl ?_
  by_cases q9 : o.k = 9
  · have q7 : o.k ≠ 7 := by omega
    have er : opr d o = d.crash o.cs := by unfold opr; rw [if_neg q1, if_neg q2, if_neg q3, if_neg q4, if_neg q5, if_neg q6, if_neg q7, if_neg q8, if_pos q9]
    rw [q9]
    exact br_true rfl ⟨_, _, _, H3.cell (off := 5) rfl, Crash_hs (cs := o.cs) hd (by omega) ok.gc.cons rfl ok.lc ok.nc ok.cs (H3.sel 2 [0]) H3.m1 fun h4 H4 => ⟨_, rfl, fin er H4⟩⟩
  rw [show (o.k == 9) = false by simpa using q9]
  refine br_false rfl ?_
  have er : opr d o = d := by
    unfold opr
    rw [if_neg q1, if_neg q2, if_neg q3, if_neg q4, if_neg q5, if_neg q6]
    by_cases q7 : o.k = 7
    · rw [if_pos q7]
    · rw [if_neg q7, if_neg q8, if_neg q9]
  exact fin er H3.m1
end Go.Proofs.Ytkogmkajhjmkeaa

set_option maxRecDepth 20000
set_option linter.unusedVariables false
set_option linter.unusedSimpArgs false
namespace Go.Proofs.Ytkogmkajhjmkeaa
open Go Go.HW
variable {h : Heap} {L : List Assn} {Q : Value → Heap → Prop} {p s : Nat} {d : DS} {F : List (Nat × Obj)}
theorem DiskStops_spec {room m : Int} {a : OA} {n c : Nat} {ops : List Op} (hm63 : m < 2 ^ 63) (hr : Rd h a (ops.flatMap opV)) (hn : ops.length = n) (hok : ∀ o ∈ ops, OpOk [ro h] o) (HQ : ∀ h', ExtB h.size h h' → Q (.bool true) h') :
    SpecH PP F_law09_DiskStops [.int .i64 room, .slice a n c, .int .i64 m] h Q := by
  have fin : ∀ {h' : Heap} {M : List Assn}, Hs h' (ro h :: M) → Q (.bool true) h' := fun H => HQ _ H.ro_below
  have g : Gv [ro h] a (ops.flatMap opV) := Gv.ro hr
  refine law09_DiskStops.door (large_hs g hn (Hs.start h) (fun h1 H1 => ⟨_, rfl, br_true rfl (law09_DiskStops.J1_of (br_true rfl (fin H1)))⟩) fun hl hs h1 H1 => ⟨_, rfl, br_false rfl ?_⟩)
  dsimp only
  by_cases hm : m < 0
  · rw [decide_eq_true hm]; exact law09_DiskStops.J1_of (br_true rfl (fin H1))
  rw [decide_eq_false hm]
  refine law09_DiskStops.J1_of (br_false rfl (New_hs H1 (fun e => ⟨_, _, rfl, ?_⟩) fun r1 r2 h2 p H2 => ⟨_, _, rfl, ?_⟩))
  · refine New_hs H1 (fun e' => ⟨_, _, rfl, br_true rfl (law09_DiskStops.J2_of (br_true rfl (awake_hs H1 fun h2 H2 => ⟨_, rfl, br_true rfl (br_true rfl (fin H2))⟩)))⟩) (fun r1 r2 => by omega)
  refine New_hs H2 (fun e => by omega) fun _ _ h3 x H3 => ⟨_, _, rfl, br_false rfl (br_false rfl (br_false rfl (law09_DiskStops.J2_of (br_false rfl ?_))))⟩
  -- 0 disk x 1 disk p 2 ro
  have hd0 : DI (dnew room.toNat) := di_new ⟨by omega, by omega⟩
  have est : (dnew room.toNat).stop m = (stp m.toNat (dnew room.toNat), 0) := by
    unfold DS.stop
    rw [if_neg (show ¬ (dnew room.toNat).down = true by rw [none_down rfl]; simp), if_neg hm]
    rfl
  refine Stop_hs hm63 H3.m1 fun h4 H4 => ⟨_, rfl, ?_⟩
  rw [est] at H4 ⊢
  refine br_false rfl ?_
  have hN : ((m.toNat : Nat) : Int) = m := by omega
  generalize hNN : m.toNat = N at *
  subst hN
  -- the end
  have last : ∀ {h' : Heap} {d y : DS}, St N d y → DI d → DI y → y.steps < 2 ^ 20 → y.steps ≤ N → Hs h' [diskA p d, diskA x y, ro h] → law09_DiskStops.K3 Q (.exit 0) (law09_DiskStops.X0 (N : Int) (some ⟨p, 0, none⟩) (some ⟨x, 0, none⟩)) h' := by
    intro h' d y st hd hy hst hle H
    obtain ⟨e, hln⟩ := st
    have ed : d.down = decide (y.steps = N) := by
      rw [e]; unfold DS.down stp
      by_cases q : y.steps = N
      · rw [decide_eq_true q]; simp; omega
      · rw [decide_eq_false q]; simp; omega
    have es : d.steps = y.steps := by rw [e]; rfl
    have yd : y.down = false := none_down hln
    refine law09_DiskStops.L1_X0 (Steps_hs H.m1 ⟨_, rfl, DDown_hs H ⟨_, rfl, ?_⟩⟩)
    have e5 : (((y.steps : Nat) : Int) == (N : Int)) = decide (y.steps = N) := by
      by_cases q : y.steps = N
      · rw [q]; simp
      · rw [decide_eq_false q]; simp; omega
    dsimp only
    rw [e5, ed]
    refine br_false (by simp) (Steps_hs H ⟨_, rfl, Steps_hs H.m1 ⟨_, rfl, ?_⟩⟩)
    rw [es, show (((y.steps : Nat) : Int) != ((y.steps : Nat) : Int)) = false by simp]
    refine law09_DiskStops.J4_of (br_false rfl ?_)
    by_cases q : y.steps = N
    · rw [decide_eq_true q] at ed ⊢
      refine br_false rfl ?_
      have dc : ∀ n, d.create n = (d, 94) := fun n => by unfold DS.create; rw [if_pos ed]
      have dsd : d.syncdir = (d, 94) := by unfold DS.syncdir; rw [if_pos ed]
      have dr : ∀ n, d.read n = ([], 94) := fun n => by unfold DS.read; rw [if_pos ed]
      have dn : d.names = [] := by unfold DS.names; rw [if_pos ed]
      have du : d.used = 0 := by unfold DS.used; rw [if_pos ed]
      have dst : d.stop 1 = (d, 94) := by unfold DS.stop; rw [if_pos ed]
      refine Create_hs (n := ⟨#[122]⟩) hd (by omega) (by decide) H fun h5 H5 => ⟨_, rfl, ?_⟩
      rw [dc] at H5 ⊢
      refine SyncDir_hs hd (by omega) H5 fun h6 H6 => ⟨_, rfl, ?_⟩
      rw [dsd] at H6 ⊢
      refine Read_hs (n := ⟨#[97]⟩) hd H6 fun h7 a7 c7 H7 => ⟨_, _, _, _, rfl, ?_⟩
      rw [dr] at H7 ⊢
      refine br_false rfl (br_false rfl (br_false rfl ?_))
      refine Names_hs hd (by omega) (H7.m1) fun h8 a8 c8 H8 => ⟨_, _, _, rfl, ?_⟩
      rw [dn] at H8 ⊢
      refine br_false rfl (Used_hs hd (by omega) (H8.m1) fun h9 H9 => ⟨_, rfl, ?_⟩)
      rw [du]
      refine br_false rfl (Stop_hs (by decide) H9 fun h10 H10 => ⟨_, rfl, ?_⟩)
      rw [dst] at H10 ⊢
      refine law09_DiskStops.J5_of (br_false rfl ?_)
      -- 0 disk p 1 own 2 own 3 disk x 4 ro
      have H11 : Hs h10 [diskA p d, diskA x y, ro h] := H10.sel 5 [0, 3, 4]
      have gz : ∀ {M : List Assn}, Gv M none (zV []) := fun h _ => Rd.nil h _
      refine Crash_hs (cs := []) hd (by omega) gz rfl (Nat.le_refl _) (fun _ => rfl) (fun c hc => nomatch hc) (H11.sel 3 [1, 2]) H11 fun h12 H12 => ⟨_, rfl, ?_⟩
      refine Crash_hs (cs := []) hy (by omega) gz rfl (Nat.le_refl _) (fun _ => rfl) (fun c hc => nomatch hc) (H12.sel 3 [0, 2]) H12.m1 fun h13 H13 => ⟨_, rfl, ?_⟩
      have ecr : d.crash [] = y.crash [] := by rw [e]; rfl
      rw [ecr] at H13
      have hc := hy.crash []
      have hcs : (y.crash []).steps = y.steps := rfl
      generalize y.crash [] = z at *
      refine awake_hs H13 fun h14 H14 => ⟨_, rfl, br_true rfl ?_⟩
      refine Names_hs hc (by omega) H14.m1 fun h15 a15 c15 H15 => ⟨_, _, _, rfl, ?_⟩
      refine Names_hs hc (by omega) H15.m2 fun h16 a16 c16 H16 => ⟨_, _, _, rfl, ?_⟩
      -- 0 own 1 disk x 2 own 3 disk p
      refine texts_hs (H16.m2.rd) H16.rd rfl rfl (by have := names_len hc; omega) (fun _ => ⟨_, rfl, br_true rfl ?_⟩) rfl
      refine Used_hs hc (by omega) H16.m3 fun h17 H17 => ⟨_, rfl, ?_⟩
      refine Used_hs hc (by omega) H17.m2 fun h18 H18 => ⟨_, rfl, ?_⟩
      dsimp only
      rw [beq_self_eq_true]
      exact fin (H18.sel 5 [4])
    · rw [decide_eq_false q] at ed ⊢
      refine br_true rfl (awake_hs H fun h5 H5 => ⟨_, rfl, br_true rfl ?_⟩)
      have en : d.names = y.names := by unfold DS.names; rw [if_neg (by rw [ed]; simp), if_neg (by rw [yd]; simp), e]; rfl
      refine Names_hs hd (by omega) H5 fun h6 a6 c6 H6 => ⟨_, _, _, rfl, ?_⟩
      refine Names_hs hy (by omega) H6.m2 fun h7 a7 c7 H7 => ⟨_, _, _, rfl, ?_⟩
      refine texts_hs (H7.m2.rd) H7.rd rfl rfl (by have := names_len hd; omega) (fun _ => ⟨_, rfl, ?_⟩) en
      exact fin (H7.sel 5 [4])
  have go : ∀ (q i : Nat) {h' : Heap} {d y : DS}, i + q = n → St N d y → DI d → DI y → y.steps ≤ i → y.steps ≤ N → Hs h' [diskA p d, diskA x y, ro h] → law09_DiskStops.L1 a n c (N : Int) (some ⟨p, 0, none⟩) (some ⟨x, 0, none⟩) (i : Nat) (law09_DiskStops.K3 Q) h' := by
    intro q
    induction q with
    | zero =>
      intro i h' d y hi st hd hy hst hle H
      exact law09_DiskStops.L1_of (br_false (decide_eq_false (by omega)) (last st hd hy (by omega) hle H))
    | succ q ih =>
      intro i h' d y hi st hd hy hst hle H
      have hin : i < ops.length := by omega
      refine law09_DiskStops.L1_of (br_true (decide_eq_true (by omega)) ?_)
      refine idxf E_sl_haversacklaw09_Op (φ := opV) (l := ops) (x := ops[i]) (g _ (H.sel 2 [])) opV_len (by decide) (by omega) (by omega) (by rw [Int.toNat_natCast, List.getElem?_eq_getElem hin]) fun t ht => ⟨_, _, _, _, _, _, _, _, _, _, ht, ?_⟩
      have ok := hok _ (List.getElem_mem hin)
      have sm := hs _ (List.getElem_mem hin)
      generalize ops[i] = o at *
      have H1 := H.new (t := T_haversacklaw09_Op) (cs := #[(.int .i64 0), (.string (⟨#[]⟩ : ByteArray)), (.string (⟨#[]⟩ : ByteArray)), (.slice none 0 0), (.int .i64 0), (.slice none 0 0)]) (xs := [(.int .i64 0), (.string (⟨#[]⟩ : ByteArray)), (.string (⟨#[]⟩ : ByteArray)), (.slice none 0 0), (.int .i64 0), (.slice none 0 0)])
      dsimp only
      generalize Array.size h' = k at H1 ⊢
      generalize Array.push h' _ = h5 at H1 ⊢
      refine Hs.wrs (b := k) (vs := opV o) H1 (fun h6 H6 => ?_) rfl (opV_one _)
      have skip : ∀ {h7 : Heap} {d y : DS}, St N d y → DI d → DI y → y.steps ≤ i + 1 → y.steps ≤ N → Hs h7 [diskA p d, diskA x y, ro h] → law09_DiskStops.J3 a n c (N : Int) (some ⟨p, 0, none⟩) (some ⟨x, 0, none⟩) (i : Nat) (law09_DiskStops.K3 Q) h7 := by
        intro h7 d y st hd hy hst hle H
        refine law09_DiskStops.J3_of ?_
        rw [inc (by omega)]
        exact ih (i + 1) (by omega) st hd hy hst hle H
      refine ⟨_, H6.cell (off := 0) rfl, (br_iff _ _ _).2 ⟨fun _ => skip st hd hy (by omega) hle (H6.sel 4 [1, 2, 3]), fun q8 => ⟨_, H6.cell (off := 0) rfl, (br_iff _ _ _).2 ⟨fun _ => skip st hd hy (by omega) hle (H6.sel 4 [1, 2, 3]), fun q9 => ?_⟩⟩⟩⟩
      have q8 : o.k ≠ 8 := by simpa using q8
      have q9 : o.k ≠ 9 := by simpa using q9
      refine Steps_hs H6.m2 ⟨_, rfl, (br_iff _ _ _).2 ⟨fun _ => last st hd hy (by omega) hle (H6.sel 4 [1, 2, 3]), fun qs => ?_⟩⟩
      have qs : ¬ ((y.steps : Nat) : Int) = (N : Int) := by simpa using qs
      refine ⟨_, _, _, _, _, _, _, _, _, _, H6.rdc0, ?_⟩
      have H7 := H6.new (t := T_haversacklaw09_Op) (cs := (opV o).toArray) (xs := opV o)
      have g1 : ∀ {M : List Assn} {b : Nat}, Gv (pt b T_haversacklaw09_Op (opV o) :: M) (some ⟨b, 0, none⟩) (opV o) := Gv.pt
      have okM : ∀ {A B C : Assn}, OpOk (A :: B :: C :: [ro h]) o := ⟨ok.gb.cons.cons.cons, ok.nb, ok.gc.cons.cons.cons, ok.nc, ok.lc, ok.n, ok.cs⟩
      have okM4 : ∀ {A B C D : Assn}, OpOk (A :: B :: C :: D :: [ro h]) o := ⟨ok.gb.cons.cons.cons.cons, ok.nb, ok.gc.cons.cons.cons.cons, ok.nc, ok.lc, ok.n, ok.cs⟩
      generalize Array.size h6 = k2 at H7 ⊢
      generalize hp7 : Array.push h6 _ = h7
      have H7 : Hs h7 (pt k2 T_haversacklaw09_Op (opV o) :: pt k T_haversacklaw09_Op (opV o) :: diskA p d :: diskA x y :: [ro h]) := by rw [← hp7]; exact H7
      have es : d.steps = y.steps := by rw [st.e]; rfl
      refine play1_hs (L := [pt k2 T_haversacklaw09_Op (opV o), pt k T_haversacklaw09_Op (opV o), diskA x y, ro h]) g1 okM sm hd (by omega) (H7.m2) fun h8 H8 => ⟨rfl, ?_⟩
      -- 0 disk p' 1 k2 2 k 3 disk x
      refine ⟨_, _, _, _, _, _, _, _, _, _, H8.m2.rdc0, ?_⟩
      have H9 := H8.new (t := T_haversacklaw09_Op) (cs := (opV o).toArray) (xs := opV o)
      generalize Array.size h8 = k3 at H9 ⊢
      generalize hp9 : Array.push h8 _ = h9
      have H9 : Hs h9 (pt k3 T_haversacklaw09_Op (opV o) :: diskA p (opr d o) :: pt k2 T_haversacklaw09_Op (opV o) :: pt k T_haversacklaw09_Op (opV o) :: diskA x y :: [ro h]) := by rw [← hp9]; exact H9
      refine play1_hs (L := [pt k3 T_haversacklaw09_Op (opV o), diskA p (opr d o), pt k2 T_haversacklaw09_Op (opV o), pt k T_haversacklaw09_Op (opV o), ro h]) g1 okM4 sm hy (by omega) (H9.sel 5 [4, 0, 1, 2, 3]) fun h10 H10 => ⟨rfl, ?_⟩
      have hst2 := opr_steps (d := y) o
      exact skip (st.opr (by omega) q8 q9) (hd.opr ok.n) (hy.opr ok.n) (by omega) (by omega) (H10.sel 5 [2, 0])
  exact go n 0 (by omega) (St.same rfl) (by have := (hd0.stop hm63); rw [est] at this; exact this) hd0 (Nat.le_refl _) (Nat.zero_le _) H4
end Go.Proofs.Ytkogmkajhjmkeaa

set_option maxRecDepth 20000
set_option linter.unusedVariables false
namespace Go.Proofs.Ytkogmkajhjmkeaa
open Go Go.HW
def OpWf (h : Heap) (o : Op) : Prop := OpOk [ro h] o
theorem open_op {W : World} {ecs : List Value} (hl : ecs.length = 6) (g : Dat PP W T_haversacklaw09_Op ecs) : ∃ x, ecs = opV x ∧ OpWf W.heap x := by
  match ecs, hl with
  | [a, b, c, d, e, f1], _ =>
    have f := g.fields
    rw [FL_haversacklaw09_Op] at f
    obtain ⟨k, e1, _⟩ := (f (T_int, 0, 1) (by simp)).i64 U_int
    obtain ⟨s, e2, _⟩ := (f (T_string, 1, 1) (by simp)).str U_string
    obtain ⟨t, e3, _⟩ := (f (T_string, 2, 1) (by simp)).str U_string
    obtain ⟨ba, bn, bc, bs, e4, hr, hn, hc, _, h0, _, _⟩ := (f (T_sl_uint8, 3, 1) (by simp)).nbytes U_sl_uint8 U_uint8 C_uint8
    obtain ⟨n, e5, _, hn2⟩ := (f (T_int, 4, 1) (by simp)).i64 U_int
    obtain ⟨ca, cn, cc, cs, e6, hr2, hn3, hc2, _, h02, _, hz⟩ := (f (T_sl_int, 5, 1) (by simp)).ints U_sl_int U_int C_int
    cases e1; cases e2; cases e3; cases e4; cases e5; cases e6
    subst hn hn3
    exact ⟨⟨k, s, t, ba, bc, bs, n, ca, cc, cs⟩, rfl, ⟨Gv.ro hr, fun q => by have := h0 q; show bs.length = 0; omega, Gv.ro hr2, h02, hc2, by show n < 2 ^ 63; omega, fun c hcm => by have := hz c hcm; omega⟩⟩
end Go.Proofs.Ytkogmkajhjmkeaa

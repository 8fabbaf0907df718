/- Texts of the proof, laid together: The calls of a disk: New, Create, Append, Sync, Rename, Remove, SyncDir, Read, Names, Used, Steps, Stop.; The calls of a disk: Sync, Rename, Remove, SyncDir, Read, Names, Used, Append, Steps, Stop.; The calls of a disk: Used, Append, Names.; Crash.; Read, with the room of what is told known.; Contracts of package little over heaps: checks, numbers put and got.; Contracts of package little over heaps: numbers got.; A log in memory; Last, First, Synced.; A log's bytes: sealed, head, laid, whole, begins.; Numbers as text: what is plain about them.; A log's bytes, read: whole, begins, records (of what was laid well).; A log's segments: a new one is begun, a record is laid.; A log's Append and Sync (where all goes well).; slices.Delete of the first of a row of pointers.; A log's Cut (where all goes well).; A log is opened: on an empty disk; on one with one well laid file.; Plain: what stays so of a log's disk; a disk with one file.; Plain: what stays so while a log is appended to; and when all is cut.; Chapter 10: the room, the document's examples.; Chapter 10: the laws.; Chapter 10: what start-up laid, as the row tells it. -/
import Derived.Test.YtjihchpobpgpeaaGreatDoorP3
import Derived.Test.YtjihchpobpgpeaaGreatDoorP2
import Derived.Lib.ItoaNum
import Derived.Lib.AtoiAllCases
import Derived.Test.YtjihchpobpgpeaaGreatDoorRows
import Derived.Lib.LaidTab
import Derived.LaidSub
set_option maxRecDepth 20000
set_option linter.unusedVariables false
set_option linter.unusedSimpArgs false
namespace Go.Proofs.YtjihchpobpgpeaaGreatDoor
open Go Go.HW
variable {h : Heap} {L : List Assn} {Q : Value → Heap → Prop}
section
variable {d : DS} {l l' : FM} {mn ms : List (Nm × Nat)}
theorem blk_congr {i : Nat} (e : mget l' i = mget l i) : blk l' i = blk l i := by unfold blk; rw [e]
theorem nmV_congr {ns : List (Nm × Nat)} (e : ∀ x ∈ ns, blk l' x.2 = blk l x.2) : nmV l' ns = nmV l ns :=
  List.map_congr_left fun x hx => by rw [e x hx]
theorem chV_congr {c : Chg} (e : c.to ≠ e0 → blk l' c.f = blk l c.f) : chV l' c = chV l c := by
  unfold chV cptr
  by_cases q : c.to = e0
  · rw [if_pos q, if_pos q]
  · rw [if_neg q, if_neg q, e q]
theorem chVs_congr {cs : List Chg} (e : ∀ c ∈ cs, c.to ≠ e0 → blk l' c.f = blk l c.f) : cs.flatMap (chV l') = cs.flatMap (chV l) := by
  induction cs with
  | nil => rfl
  | cons c cs ih => rw [List.flatMap_cons, List.flatMap_cons, chV_congr (e c (List.mem_cons_self ..)), ih fun c hc => e c (List.mem_cons_of_mem _ hc)]
theorem LkD.lt (lk : LkD d l mn ms) {i : Nat} (e : mget l i ≠ none) : i < d.files.length := by
  cases q : mget l i with
  | none => exact absurd q e
  | some x => exact (lk.fl i x.1 x.2 q).1
theorem LkD.add (lk : LkD d l mn ms) (b : Nat) : LkD { d with files := d.files ++ [fil0] } (mset l d.files.length (b, fil0)) mn ms := by
  have hne : ∀ i, mget l i ≠ none → mget (mset l d.files.length (b, fil0)) i = mget l i := fun i e => by
    rw [mget_mset, if_neg (by have := lk.lt e; omega)]
  refine ⟨nodup_mset lk.nd _ _, fun i b' f e => ?_, ?_, ?_, fun x hx => ?_, fun x hx => ?_, fun c hc h1 => ?_⟩
  · rw [mget_mset] at e
    by_cases q : d.files.length = i
    · rw [if_pos q] at e; cases e; subst q
      exact ⟨by simp, by simp [DS.fl]⟩
    · rw [if_neg q] at e
      obtain ⟨h1, h2⟩ := lk.fl i b' f e
      refine ⟨by simp; omega, ?_⟩
      rw [← h2]; simp only [DS.fl]
      rw [List.getElem?_append_left h1]
  · rw [nmV_congr fun x hx => blk_congr (hne _ (lk.hn x hx))]; exact lk.n
  · rw [nmV_congr fun x hx => blk_congr (hne _ (lk.hs x hx))]; exact lk.s
  · rw [hne _ (lk.hn x hx)]; exact lk.hn x hx
  · rw [hne _ (lk.hs x hx)]; exact lk.hs x hx
  · rw [hne _ (lk.hc c hc h1)]; exact lk.hc c hc h1
theorem blk_set {i b : Nat} {f f' : Fil} (e : mget l i = some (b, f)) (j : Nat) : blk (mset l i (b, f')) j = blk l j := by
  unfold blk
  rw [mget_mset]
  by_cases q : i = j
  · subst q; rw [if_pos rfl, e]; rfl
  · rw [if_neg q]
theorem LkD.setf (lk : LkD d l mn ms) {i b : Nat} {f : Fil} (e : mget l i = some (b, f)) (f' : Fil) : LkD { d with files := d.files.set i f' } (mset l i (b, f')) mn ms := by
  have hne : ∀ j, mget l j ≠ none → mget (mset l i (b, f')) j ≠ none := fun j e2 => by
    rw [mget_mset]; split
    · simp
    · exact e2
  refine ⟨nodup_mset lk.nd _ _, fun j b' g e2 => ?_, ?_, ?_, fun x hx => hne _ (lk.hn x hx), fun x hx => hne _ (lk.hs x hx), fun c hc h1 => hne _ (lk.hc c hc h1)⟩
  · have hi := (lk.fl i b f e).1
    rw [mget_mset] at e2
    by_cases q : i = j
    · rw [if_pos q] at e2; cases e2; subst q
      exact ⟨by simpa using hi, by simp [DS.fl, hi]⟩
    · rw [if_neg q] at e2
      obtain ⟨h1, h2⟩ := lk.fl j b' g e2
      refine ⟨by simpa using h1, ?_⟩
      rw [← h2]; simp only [DS.fl]
      rw [List.getElem?_set_ne q]
  · rw [nmV_congr fun x _ => blk_set e _]; exact lk.n
  · rw [nmV_congr fun x _ => blk_set e _]; exact lk.s
theorem LkD.tick (lk : LkD d l mn ms) : LkD d.tick l mn ms := ⟨lk.nd, lk.fl, lk.n, lk.s, lk.hn, lk.hs, lk.hc⟩
theorem LkD.change (lk : LkD d l mn ms) (hk : (d.now.map (·.1)).Nodup) {cg : Chg} (hc : cg.to ≠ e0 → mget l cg.f ≠ none) : LkD (d.change cg) l (doM mn cg.fr cg.to (blk l cg.f)) ms :=
  ⟨lk.nd, lk.fl, doM_perm lk.n hk, lk.s, fun x hx => by
    rcases mem_ap hx with q | ⟨q, rfl⟩
    · exact lk.hn x q
    · exact hc q, lk.hs, fun c hcc h1 => by
    rcases List.mem_append.1 hcc with q | q
    · exact lk.hc c q h1
    · rw [List.mem_singleton.1 q] at h1 ⊢; exact hc h1⟩
end
theorem change_hs {p : Nat} {d : DS} {l : FM} {mn ms : List (Nm × Nat)} {rn rs : Nat} {a : OA} {c : Nat} {cg : Chg} (hd : d.down = false) (hs : d.steps < 2 ^ 40) (hcl : d.chg.length ≤ d.steps) (hl : ∀ n, d.left = some n → n < 2 ^ 63) (lk : LkD d l mn ms) (hk : (d.now.map (·.1)).Nodup)
    (hcg : cg.to ≠ e0 → mget l cg.f ≠ none)
    (H : Hs h (pt p T_disk_Disk (dkV d rn rs a c) :: mp Value.string ptrV rn mn :: mp Value.string ptrV rs ms :: own a d.chg.length c T_disk_change 3 (d.chg.flatMap (chV l)) :: fam filB l :: L))
    (kk : ∀ h', Hs h' (diskA p (d.change cg) :: L) → Q (.int .i64 0) h') :
    SpecH PP F_disk_Disk_change [.pointer (some ⟨p, 0, none⟩), .agg #[.string cg.fr, .string cg.to, .pointer (cptr l cg)]] h Q := by
  refine disk_Disk_change.door ?_
  have H1 := H.new (t := T_disk_change) (cs := #[.string cg.fr, .string cg.to, .pointer (cptr l cg)]) (xs := chV l cg)
  dsimp only
  generalize Array.size h = k at H1 ⊢
  generalize Array.push h _ = h1 at H1 ⊢
  refine ⟨_, H1.m1.cell (off := 1) rfl, _, _, _, H1.rdc0, ?_⟩
  refine do_hs (b := blk l cg.f) (fun q => by unfold cptr; rw [if_neg q]) (H1.m2) fun h2 H2 => ⟨rfl, ?_⟩
  refine ⟨_, _, _, H2.m2.cell (off := 3) rfl, _, _, _, H2.m1.rdc0, ?_⟩
  refine (H2.m4).app_vals E_sl_disk_change (m := 1) (ys := chV l cg) rfl rfl (chV_one l cg) (fun h3 a' c' H3 => ⟨_, _, _, rfl, ?_⟩) (by omega) (by omega)
  refine (H3.m3).sto (off := 3) (by simp [dkV]) fun h4 H4 => ?_
  have e1 : d.chg.flatMap (chV l) ++ chV l cg = (d.chg ++ [cg]).flatMap (chV l) := by simp
  rw [e1] at H4
  have e2 : (dkV d rn rs a c).set 3 (.slice a' (d.chg.length + 1) c') = dkV { d with now := ap d.now cg, chg := d.chg ++ [cg] } rn rs a' c' := by simp [dkV]
  rw [e2] at H4
  refine done_hs (d := { d with now := ap d.now cg, chg := d.chg ++ [cg] }) hd (show d.steps < 2 ^ 62 by omega) hl H4 fun h5 H6 => ⟨_, rfl, kk h5 (diskA_open.2 ⟨l, _, ms, rn, rs, a', c', lk.change hk hcg, ?_⟩)⟩
  have H7 := H6.sel 6 [0, 2, 4, 1, 5]
  have e3 : (d.change cg).chg.length = d.chg.length + 1 := by simp [DS.change, DS.tick]
  rw [e3]
  exact H7
/-- A file of a disk is looked at. -/
theorem fil_at {l : FM} {i b : Nat} {f : Fil} (nd : (l.map (·.1)).Nodup) (e : mget l i = some (b, f)) (H : Hs h (fam filB l :: L)) : ∃ a n c, Hs h (pt b T_disk_file [.slice a n c, .int .i64 (f.safe : Nat)] :: own a n c T_uint8 1 (nV f.bs) :: fam filB (mdel l i) :: L) := by
  exact filB_open.1 (H.fam_take nd e)
theorem New_hs {room : Int} (H : Hs h L) (k0 : (room < 1 ∨ 4194304 < room) → Q (.tuple #[.pointer none, .int .i64 1]) h)
    (kk : 1 ≤ room → room ≤ 4194304 → ∀ h' p, Hs h' (diskA p (dnew room.toNat) :: L) → Q (.tuple #[.pointer (some ⟨p, 0, none⟩), .int .i64 0]) h') : SpecH PP F_disk_New [.int .i64 room] h Q := by
  refine disk_New.door ?_
  have good : 1 ≤ room → room ≤ 4194304 → disk_New.J1 room false Q h := by
    intro h1 h2
    refine disk_New.J1_of (br_false rfl ?_)
    have H1 := (H.fam_new (α := Nat) (A := filB)).own_nil T_disk_change 3
    have H2 := H1.mp_new (κ := Value.string) (ν := ptrV)
    have H3 := H2.mp_new (κ := Value.string) (ν := ptrV)
    have H4 := H3.new (t := T_disk_Disk) (xs := [.int .i64 room, .map (some (Array.size h)), .map (some (Array.size (Array.push h (.map #[] 0)))), .slice none 0 0, .int .i64 0, .bool false, .int .i64 0])
    dsimp only
    refine kk h1 h2 _ _ (diskA_open.2 ⟨[], [], [], Array.size h, Array.size (Array.push h (.map #[] 0)), none, 0, ⟨by simp, by simp [mget_nil], .refl _, .refl _, nofun, nofun, nofun⟩, ?_⟩)
    have e : ((room.toNat : Nat) : Int) = room := by omega
    have e2 : dkV (dnew room.toNat) (Array.size h) (Array.size (Array.push h (.map #[] 0))) none 0 = [.int .i64 room, .map (some (Array.size h)), .map (some (Array.size (Array.push h (.map #[] 0)))), .slice none 0 0, .int .i64 0, .bool false, .int .i64 0] := by
      simp [dkV, dnew, e]
    rw [e2]
    exact H4.sel 4 [0, 2, 1, 3]
  refine (br_iff _ _ _).2 ⟨fun e => ?_, fun e => ?_⟩
  · exact disk_New.J1_of (br_true rfl (k0 (.inl (of_decide_eq_true e))))
  · have h1 := of_decide_eq_false e
    dsimp only
    by_cases h2 : room > 4194304
    · rw [decide_eq_true h2]
      exact disk_New.J1_of (br_true rfl (k0 (.inr h2)))
    · rw [decide_eq_false h2]
      exact good (by omega) (by omega)
theorem Create_hs {p : Nat} {d : DS} {n : Nm} (hd : DI d) (hb : d.steps < 2 ^ 40) (hn : n.size < 2 ^ 60) (H : Hs h (diskA p d :: L)) (kk : ∀ h', Hs h' (diskA p (d.create n).1 :: L) → Q (.int .i64 (d.create n).2) h') :
    SpecH PP F_disk_Disk_Create [.pointer (some ⟨p, 0, none⟩), .string n] h Q := by
  obtain ⟨l, mn, ms, rn, rs, a, c, lk, H1⟩ := diskA_open.1 H
  unfold DS.create at kk
  refine disk_Disk_Create.door (ready_hs H1 ⟨_, rfl, ?_⟩)
  cases hdn : d.down with
  | true =>
    rw [if_pos hdn] at kk
    exact br_true rfl (kk h H)
  | false =>
    rw [if_neg (by rw [hdn]; simp)] at kk
    refine br_false rfl ⟨_, H1.cell (off := 1) rfl, ?_⟩
    refine H1.m1.lookup2 U_disk_names Ky_str z_fp n ?_
    have hg : mget mn n = (d.find n).map (blk l) := by rw [mget_congr lk.n (by rw [nmV_keys]; exact hd.keys), nmV_get]; rfl
    have fin : ∀ (x : OA) (t : Bool), t = (d.find n).isSome → ∃ (t19 : OA) (t19_1 : Bool), Value.tuple #[.pointer x, .bool t] = (.tuple #[(.pointer t19), (.bool t19_1)]) ∧
        SpecH PP F_disk_good [(.string n)] h (fun v_2 h3 => ∃ (t24 : Bool), v_2 = (.bool t24) ∧
        let t25 : Bool := (!t24)
        br t25 (Q (.int .i64 90) h3) (br t19_1 (Q (.int .i64 91) h3) (∃ (t32 : ON), cellH h3 (Addr.add ⟨p, 0, none⟩ 1) = some (.map t32) ∧
        hwp PP (Builtin.len_ #[T_disk_names] T_int #[(.map t32)]) (fun v_3 h4 => ∃ (t33 : Int), v_3 = (.int .i64 t33) ∧
        let t34 : Bool := decide (t33 ≥ 64)
        br t34 (Q (.int .i64 95) h4) (
        let t38 : Addr := ⟨Array.size h4, 0, none⟩
        let h5 : Heap := Array.push h4 (.cells #[(.slice none 0 0), (.int .i64 0)] T_disk_file (0, 0))
        SpecH PP F_disk_Disk_change [(.pointer (some ⟨p, 0, none⟩)), (.agg #[(.string (⟨#[]⟩ : ByteArray)), (.string n), (.pointer (some t38))])] h5 (fun v_4 h6 => ∃ (t40 : Int), v_4 = (.int .i64 t40) ∧
        Q (.int .i64 t40) h6))) h3))) := by
      intro x t ht
      refine ⟨_, _, rfl, good_hs hn H1 fun h2 H2 => ⟨_, rfl, ?_⟩⟩
      dsimp only
      have Hd := diskA_open.2 ⟨l, mn, ms, rn, rs, a, c, lk, H2⟩
      refine (br_iff _ _ _).2 ⟨fun e => ?_, fun e => ?_⟩
      · have e : good n = false := by simpa using e
        rw [if_pos e] at kk; exact kk _ Hd
      have e : good n = true := by simpa using e
      rw [if_neg (by rw [e]; simp)] at kk
      refine (br_iff _ _ _).2 ⟨fun e2 => ?_, fun e2 => ?_⟩
      · rw [if_pos (by rw [← ht]; exact e2)] at kk; exact kk _ Hd
      rw [if_neg (by rw [← ht, e2]; simp)] at kk
      refine ⟨_, H2.cell (off := 1) rfl, ?_⟩
      refine H2.m1.mlen U_disk_names ⟨_, rfl, ?_⟩
      have hlen : mn.length = d.now.length := by have := lk.n.length_eq; simpa [nmV] using this
      refine (br_iff _ _ _).2 ⟨fun e3 => ?_, fun e3 => ?_⟩
      · have e3 := of_decide_eq_true e3
        rw [if_pos (by omega)] at kk; exact kk _ Hd
      have e3 := of_decide_eq_false e3
      rw [if_neg (by omega)] at kk
      have hne : n ≠ e0 := by unfold good at e; simp at e; exact e.1.2
      have H3 := (H2.own_nil T_uint8 1).new (t := T_disk_file) (cs := #[.slice none 0 0, .int .i64 0]) (xs := [.slice none 0 0, .int .i64 0])
      generalize Array.size h2 = k at H3 ⊢
      generalize Array.push h2 _ = h3 at H3 ⊢
      have hnone : mget l d.files.length = none := by
        cases q : mget l d.files.length with
        | none => rfl
        | some x => have := (lk.fl _ x.1 x.2 q).1; omega
      have H4 : Hs h3 (filB (k, fil0) :: _) := filB_open.2 ⟨none, 0, 0, H3⟩
      have H5 := H4.sel 6 [0, 5, 1, 2, 3, 4]
      have H6 : Hs h3 (fam filB (mset l d.files.length (k, fil0)) :: _) := Hs.fam_put (k := d.files.length) (x := (k, fil0)) (by rw [mdel_none hnone]; exact H5) lk.nd
      have hb2 : blk (mset l d.files.length (k, fil0)) d.files.length = k := by unfold blk; rw [mget_mset, if_pos rfl]; rfl
      have hcs : d.chg.flatMap (chV (mset l d.files.length (k, fil0))) = d.chg.flatMap (chV l) := chVs_congr fun c hc q => by
        have := lk.lt (lk.hc c hc q)
        unfold blk; rw [mget_mset, if_neg (by omega)]
      rw [← hcs] at H6
      have hcp : (some ⟨k, 0, none⟩ : OA) = cptr (mset l d.files.length (k, fil0)) ⟨e0, n, d.files.length⟩ := by unfold cptr; rw [if_neg hne, hb2]
      rw [hcp]
      refine change_hs (d := { d with files := d.files ++ [fil0] }) (cg := ⟨e0, n, d.files.length⟩) hdn hb hd.cl hd.lf (lk.add k) hd.keys (fun _ => by rw [mget_mset, if_pos rfl]; simp) (H6.sel 5 [1, 2, 3, 4, 0]) fun h6 H7 => ⟨_, rfl, kk h6 H7⟩
    cases hf : d.find n with
    | none => rw [hg, hf]; exact fin none false (by rw [hf]; rfl)
    | some i => rw [hg, hf]; exact fin (some ⟨blk l i, 0, none⟩) true (by rw [hf]; rfl)
end Go.Proofs.YtjihchpobpgpeaaGreatDoor

set_option maxRecDepth 20000
set_option linter.unusedVariables false
set_option linter.unusedSimpArgs false
namespace Go.Proofs.YtjihchpobpgpeaaGreatDoor
open Go Go.HW
variable {h : Heap} {L : List Assn} {Q : Value → Heap → Prop} {p : Nat} {d : DS} {n : Nm}
theorem DDown_hs (H : Hs h (diskA p d :: L)) (k : Q (.bool d.down) h) : SpecH PP F_disk_Disk_Down [.pointer (some ⟨p, 0, none⟩)] h Q := by
  obtain ⟨l, mn, ms, rn, rs, a, c, lk, H1⟩ := diskA_open.1 H
  exact Down_hs H1 k
theorem Remove_hs (hd : DI d) (hb : d.steps < 2 ^ 40) (H : Hs h (diskA p d :: L)) (kk : ∀ h', Hs h' (diskA p (d.remove n).1 :: L) → Q (.int .i64 (d.remove n).2) h') :
    SpecH PP F_disk_Disk_Remove [.pointer (some ⟨p, 0, none⟩), .string n] h Q := by
  obtain ⟨l, mn, ms, rn, rs, a, c, lk, H1⟩ := diskA_open.1 H
  unfold DS.remove at kk
  refine disk_Disk_Remove.door (find_hs lk.n hd.keys H1 (fun e => ?_) (fun e e2 => ?_) (fun i e e2 => ?_))
  · rw [if_pos e] at kk; exact ⟨_, _, rfl, br_true rfl (kk h H)⟩
  · rw [if_neg (by rw [e]; simp), e2] at kk; exact ⟨_, _, rfl, br_true rfl (kk h H)⟩
  rw [if_neg (by rw [e]; simp), e2] at kk
  refine ⟨_, _, rfl, br_false rfl ?_⟩
  exact change_hs (cg := ⟨n, e0, 0⟩) e hb hd.cl hd.lf lk hd.keys (fun q => absurd rfl q) H1 fun h6 H7 => ⟨_, rfl, kk h6 H7⟩
/-- maps.Clone of names. -/
theorem MClone_hs {r : Nat} {m : List (Nm × Nat)} (H : Hs h (mp Value.string ptrV r m :: L)) (kk : ∀ h' r', Hs h' (mp Value.string ptrV r' m :: mp Value.string ptrV r m :: L) → Q (.map (some r')) h') : SpecH PP F_maps_Clone_disk_names_string_disk_file [.map (some r)] h Q := by
  refine maps_Clone_disk_names_string_disk_file.door (br_false rfl ?_)
  refine mc_ext ?_
  refine H.mclone fun h' r' H' => ⟨_, rfl, ?_⟩
  exact hwp_asMap U_disk_names ⟨_, rfl, kk h' r' H'⟩
theorem SyncDir_hs (hd : DI d) (hb : d.steps < 2 ^ 40) (H : Hs h (diskA p d :: L)) (kk : ∀ h', Hs h' (diskA p d.syncdir.1 :: L) → Q (.int .i64 d.syncdir.2) h') :
    SpecH PP F_disk_Disk_SyncDir [.pointer (some ⟨p, 0, none⟩)] h Q := by
  obtain ⟨l, mn, ms, rn, rs, a, c, lk, H1⟩ := diskA_open.1 H
  unfold DS.syncdir at kk
  refine disk_Disk_SyncDir.door (ready_hs H1 ⟨_, rfl, ?_⟩)
  cases hdn : d.down with
  | true => rw [if_pos hdn] at kk; exact br_true rfl (kk h H)
  | false =>
    rw [if_neg (by rw [hdn]; simp)] at kk
    refine br_false rfl ⟨_, H1.cell (off := 1) rfl, ?_⟩
    refine MClone_hs H1.m1 fun h2 r2 H2 => ⟨_, rfl, ?_⟩
    refine H2.m2.sto (off := 2) (by simp [dkV]) fun h3 H3 => ?_
    refine H3.sto (off := 3) (by simp [dkV]) fun h4 H4 => ?_
    have e2 : ((dkV d rn rs a c).set 2 (.map (some r2))).set 3 (.slice none 0 0) = dkV { d with safe := d.now, chg := [] } rn r2 none 0 := by simp [dkV]
    rw [e2] at H4
    refine done_hs (d := { d with safe := d.now, chg := [] }) hdn (show d.steps < 2 ^ 62 by omega) hd.lf H4 fun h5 H5 => ⟨_, rfl, kk h5 (diskA_open.2 ⟨l, mn, mn, rn, r2, none, 0, ⟨lk.nd, lk.fl, lk.n, lk.n, lk.hn, lk.hn, nofun⟩, ?_⟩)⟩
    exact (H5.own_nil T_disk_change 3).sel 7 [1, 3, 2, 0, 6]
theorem cloneB_hs {a : OA} {m c : Nat} {bs : List Nat} (g : Gv L a (nV bs)) (hm : bs.length = m) (hb : m < 2 ^ 40) (hn : a = none → m = 0) (H : Hs h L) (kk : ∀ h' a' c', Hs h' (own a' m c' T_uint8 1 (nV bs) :: L) → Q (.slice a' m c') h') :
    SpecH PP F_slices_Clone_byte_byte [.slice a m c] h Q := by
  refine slices_Clone_byte_byte.door ?_
  cases a with
  | none =>
    have : m = 0 := hn rfl
    subst this
    have : bs = [] := List.length_eq_zero_iff.1 hm
    subst this
    exact br_true rfl (kk h none 0 (H.own_nil _ _))
  | some a =>
    refine br_false rfl ?_
    have H1 := H.new (t := T_uint8) (cs := #[]) (xs := [])
    have H2 := H1.pt_own (n := 0) (c := 0) (sz := 1) (xs := []) 0 rfl rfl (Nat.le_refl _) (by simp)
    refine H2.app_sl E_sl_uint8 (m := m) (ys := nV bs) (g _ H1.tl) (by rw [nV_len]; omega) (fun e => nomatch e) (nV_one _) (fun h3 a' c' H3 => ⟨_, _, _, rfl, ?_⟩) (by omega) (by omega)
    rw [Nat.zero_add, List.nil_append] at H3
    rw [Nat.zero_add]
    exact kk h3 a' c' H3
theorem own_none_len {L : List Assn} {h : Heap} {a : OA} {m c : Nat} {e : TypeId} {sz : Nat} {xs : List Value} (H : Hs h (own a m c e sz xs :: L)) : a = none → m = 0 := fun q => by
  subst q; have := H.own_none; have := H.own_le; omega
theorem lkfil {l : FM} {mn ms : List (Nm × Nat)} (lk : LkD d l mn ms) {i : Nat} (e : d.find n = some i) : mget l i = some (blk l i, d.fl i) := by
  have := lk.hn (n, i) (mget_mem e)
  cases q : mget l i with
  | none => exact absurd q this
  | some x =>
    have h2 := (lk.fl i x.1 x.2 q).2
    unfold blk; rw [q, h2]; rfl
theorem Read_hs (hd : DI d) (H : Hs h (diskA p d :: L)) (kk : ∀ h' a c, Hs h' (own a (d.read n).1.length c T_uint8 1 (nV (d.read n).1) :: diskA p d :: L) → Q (.tuple #[.slice a (d.read n).1.length c, .int .i64 (d.read n).2]) h') :
    SpecH PP F_disk_Disk_Read [.pointer (some ⟨p, 0, none⟩), .string n] h Q := by
  obtain ⟨l, mn, ms, rn, rs, a, c, lk, H1⟩ := diskA_open.1 H
  unfold DS.read at kk
  refine disk_Disk_Read.door (find_hs lk.n hd.keys H1 (fun e => ?_) (fun e e2 => ?_) (fun i e e2 => ?_))
  · rw [if_pos e] at kk; exact ⟨_, _, rfl, br_true rfl (kk h none 0 (H.own_nil _ _))⟩
  · rw [if_neg (by rw [e]; simp), e2] at kk; exact ⟨_, _, rfl, br_true rfl (kk h none 0 (H.own_nil _ _))⟩
  rw [if_neg (by rw [e]; simp), e2] at kk
  have hf := lkfil lk e2
  obtain ⟨a1, n1, c1, H2⟩ := fil_at lk.nd hf H1.m4
  have hl := H2.m1.own_len
  rw [nV_len, Nat.mul_one] at hl
  refine ⟨_, _, rfl, br_false rfl ⟨_, _, _, H2.cell (off := 0) rfl, ?_⟩⟩
  subst hl
  refine cloneB_hs (L := own a1 (d.fl i).bs.length c1 T_uint8 1 (nV (d.fl i).bs) :: _) Gv.own rfl (by have := (hd.fl_ok i).2; omega) (own_none_len H2.m1) H2.m1 fun h3 a3 c3 H3 => ⟨_, _, _, rfl, kk h3 a3 c3 ?_⟩
  have H4 := (filB_open (x := (blk l i, d.fl i))).2 ⟨a1, _, c1, H3.sel 3 [2, 1, 0]⟩
  have H5 := Hs.fam_back (k := i) (x := (blk l i, d.fl i)) (H4.sel 3 [0, 2, 1]) lk.nd hf
  exact (diskA_open.2 ⟨l, mn, ms, rn, rs, a, c, lk, H5.sel 6 [2, 3, 4, 5, 0, 1]⟩).m1
theorem Sync_hs (hd : DI d) (hb : d.steps < 2 ^ 40) (H : Hs h (diskA p d :: L)) (kk : ∀ h', Hs h' (diskA p (d.sync n).1 :: L) → Q (.int .i64 (d.sync n).2) h') :
    SpecH PP F_disk_Disk_Sync [.pointer (some ⟨p, 0, none⟩), .string n] h Q := by
  obtain ⟨l, mn, ms, rn, rs, a, c, lk, H1⟩ := diskA_open.1 H
  unfold DS.sync at kk
  refine disk_Disk_Sync.door (find_hs lk.n hd.keys H1 (fun e => ?_) (fun e e2 => ?_) (fun i e e2 => ?_))
  · rw [if_pos e] at kk; exact ⟨_, _, rfl, br_true rfl (kk h H)⟩
  · rw [if_neg (by rw [e]; simp), e2] at kk; exact ⟨_, _, rfl, br_true rfl (kk h H)⟩
  rw [if_neg (by rw [e]; simp), e2] at kk
  have hf := lkfil lk e2
  obtain ⟨a1, n1, c1, H2⟩ := fil_at lk.nd hf H1.m4
  have hl := H2.m1.own_len
  rw [nV_len, Nat.mul_one] at hl
  refine ⟨_, _, rfl, br_false rfl ⟨_, _, _, H2.cell (off := 0) rfl, ?_⟩⟩
  subst hl
  refine H2.sto (off := 1) (by simp) fun h3 H3 => ?_
  refine done_hs e (by omega) hd.lf H3.m3 fun h4 H4 => ⟨_, rfl, kk h4 (diskA_open.2 ⟨mset l i (blk l i, ⟨(d.fl i).bs, (d.fl i).bs.length⟩), mn, ms, rn, rs, a, c, (lk.setf hf _).tick, ?_⟩)⟩
  have H5 := (filB_open (x := (blk l i, ⟨(d.fl i).bs, (d.fl i).bs.length⟩))).2 ⟨a1, _, c1, H4.sel 3 [1, 2, 0]⟩
  have H6 := Hs.fam_put (k := i) (x := (blk l i, ⟨(d.fl i).bs, (d.fl i).bs.length⟩)) (H5.sel 3 [0, 2, 1]) lk.nd
  have hcs : (d.chg.flatMap (chV (mset l i (blk l i, ⟨(d.fl i).bs, (d.fl i).bs.length⟩)))) = d.chg.flatMap (chV l) := chVs_congr fun c _ _ => blk_set hf _
  show Hs h4 (pt p T_disk_Disk (dkV d.tick rn rs a c) :: mp Value.string ptrV rn mn :: mp Value.string ptrV rs ms :: own a d.chg.length c T_disk_change 3 (d.chg.flatMap (chV (mset l i (blk l i, ⟨(d.fl i).bs, (d.fl i).bs.length⟩)))) :: fam filB (mset l i (blk l i, ⟨(d.fl i).bs, (d.fl i).bs.length⟩)) :: L)
  rw [hcs]
  exact H6.sel 5 [1, 2, 3, 4, 0]
end Go.Proofs.YtjihchpobpgpeaaGreatDoor

set_option maxRecDepth 20000
set_option linter.unusedVariables false
set_option linter.unusedSimpArgs false
namespace Go.Proofs.YtjihchpobpgpeaaGreatDoor
open Go Go.HW
variable {h : Heap} {L : List Assn} {Q : Value → Heap → Prop} {p : Nat} {d : DS} {n : Nm}
theorem sum_perm {l m : List Nat} (p : l.Perm m) : l.sum = m.sum := by
  induction p with
  | nil => rfl
  | cons x p ih => rw [List.sum_cons, List.sum_cons, ih]
  | swap x y l => simp only [List.sum_cons]; omega
  | trans p q h1 h2 => rw [h1, h2]
theorem sum_le {α : Type} {f : α → Nat} {b : Nat} : ∀ {l : List α}, (∀ x ∈ l, f x ≤ b) → (l.map f).sum ≤ l.length * b
  | [], _ => by simp
  | x :: l, h => by
    have := sum_le (l := l) fun y hy => h y (List.mem_cons_of_mem _ hy)
    have := h x (List.mem_cons_self ..)
    rw [List.map_cons, List.sum_cons, List.length_cons, Nat.add_mul]; omega
theorem used_le (hd : DI d) (hb : d.steps < 2 ^ 38) : sumL d d.now ≤ 2 ^ 61 := by
  have h1 : sumL d d.now ≤ d.now.length * 4194304 := sum_le fun x _ => (hd.fl_ok x.2).2
  have h2 := hd.lenn
  have h3 := hd.fl
  have : d.now.length * 4194304 ≤ 2 ^ 38 * 4194304 := Nat.mul_le_mul_right _ (by omega)
  omega
/-- The length of what stands behind a name. -/
def lenAt (d : DS) (y : Nm × Nat) : Nat := (d.fl ((mget d.now y.1).getD 0)).bs.length
theorem lenAt_sum {l : FM} {m : List (Nm × Nat)} (hk : (d.now.map (·.1)).Nodup) (p : m.Perm (nmV l d.now)) : (m.map (lenAt d)).sum = sumL d d.now := by
  rw [sum_perm (p.map _)]
  unfold nmV sumL
  rw [List.map_map]
  congr 1
  refine List.map_congr_left fun x hx => ?_
  show (d.fl ((mget d.now x.1).getD 0)).bs.length = _
  rw [mget_of_mem hk (show (x.1, x.2) ∈ d.now from hx)]; rfl
theorem Used_open {l : FM} {mn ms : List (Nm × Nat)} {rn rs : Nat} {a : OA} {c : Nat} (hd : DI d) (hb : d.steps < 2 ^ 38) (lk : LkD d l mn ms)
    (H : Hs h (pt p T_disk_Disk (dkV d rn rs a c) :: mp Value.string ptrV rn mn :: fam filB l :: L))
    (kk : ∀ h', Hs h' (pt p T_disk_Disk (dkV d rn rs a c) :: mp Value.string ptrV rn mn :: fam filB l :: L) → Q (.int .i64 (d.used : Nat)) h') :
    SpecH PP F_disk_Disk_Used [.pointer (some ⟨p, 0, none⟩)] h Q := by
  refine disk_Disk_Used.door (ready_hs H ⟨_, rfl, ?_⟩)
  unfold DS.used at kk
  cases hdn : d.down with
  | true => rw [if_pos hdn] at kk; exact br_true rfl (kk h H)
  | false =>
    rw [if_neg (by rw [hdn]; simp)] at kk
    refine br_false rfl ⟨_, H.cell (off := 1) rfl, ?_⟩
    refine H.m1.range U_disk_names fun h1 i H1 => ⟨_, rfl, ?_⟩
    have htot := lenAt_sum hd.keys lk.n
    have hle := used_le hd hb
    have go : ∀ (k : Nat) {h : Heap} {done todo : List (Nm × Nat)} {s : Nat}, todo.length = k → s = (done.map (lenAt d)).sum → Hs h (rgn Value.string ptrV rn i mn done todo :: pt p T_disk_Disk (dkV d rn rs a c) :: fam filB l :: L) →
        disk_Disk_Used.L1 (s : Nat) (.pointer (some ⟨i, 0, none⟩)) (disk_Disk_Used.K1 Q) h := by
      intro k
      induction k with
      | zero =>
        intro h done todo s hk hs H
        have : todo = [] := List.length_eq_zero_iff.1 hk
        subst this
        refine disk_Disk_Used.L1_of (H.next (fun _ => ⟨false, [], rfl, br_false rfl (disk_Disk_Used.L1_X0 ?_)⟩) (fun h' x todo' p _ => by simp at p))
        have hp := H.rgn_perm
        rw [List.append_nil] at hp
        have : s = sumL d d.now := by rw [hs, sum_perm (hp.map _), htot]
        rw [this]
        exact kk h (H.rgn_end.sel 2 [1, 0])
      | succ k ih =>
        intro h done todo s hk hs H
        refine disk_Disk_Used.L1_of (H.next (fun e => by rw [e] at hk; cases hk) (fun h2 x todo' q H2 => ⟨true, [.string x.1, ptrV x.2], rfl, br_true rfl ?_⟩))
        refine H2.entry ⟨_, _, rfl, _, rfl, ?_⟩
        have hp := H2.rgn_perm
        have hx : x ∈ mn := hp.mem_iff.1 (by simp)
        have hx2 := lk.n.mem_iff.1 hx
        obtain ⟨y, hy, rfl⟩ := List.mem_map.1 hx2
        have hf : d.find y.1 = some y.2 := mget_of_mem hd.keys hy
        have hf2 := lkfil lk hf
        obtain ⟨a1, n1, c1, H3⟩ := fil_at lk.nd hf2 H2.m2
        have hl := H3.m1.own_len
        rw [nV_len, Nat.mul_one] at hl
        subst hl
        refine ⟨_, _, _, H3.cell (off := 0) rfl, ?_⟩
        have hlen : lenAt d (y.1, blk l y.2) = (d.fl y.2).bs.length := by
          show (d.fl ((mget d.now y.1).getD 0)).bs.length = _
          rw [show mget d.now y.1 = some y.2 from hf]; rfl
        have hs2 : s + (d.fl y.2).bs.length = ((done ++ [(y.1, blk l y.2)]).map (lenAt d)).sum := by
          rw [List.map_append, List.sum_append, ← hs, ← hlen]; simp
        have hb2 : s + (d.fl y.2).bs.length ≤ 2 ^ 61 := by
          have e := sum_perm (hp.map (lenAt d))
          rw [List.map_append, List.sum_append, htot, ← hs2] at e
          omega
        have ew : IntKind.i64.wrap ((s : Int) + ((d.fl y.2).bs.length : Int)) = ((s + (d.fl y.2).bs.length : Nat) : Int) := by rw [wrap_i64_z (by omega) (by omega)]; simp
        rw [ew]
        exact ih (done := done ++ [(y.1, blk l y.2)]) (todo := todo') (by have := q.length_eq; simp at this; omega) hs2 H2
    exact go mn.length (done := []) (s := 0) rfl rfl H1
theorem Used_hs (hd : DI d) (hb : d.steps < 2 ^ 38) (H : Hs h (diskA p d :: L)) (kk : ∀ h', Hs h' (diskA p d :: L) → Q (.int .i64 (d.used : Nat)) h') :
    SpecH PP F_disk_Disk_Used [.pointer (some ⟨p, 0, none⟩)] h Q := by
  obtain ⟨l, mn, ms, rn, rs, a, c, lk, H1⟩ := diskA_open.1 H
  exact Used_open hd hb lk (H1.sel 5 [0, 1, 4, 2, 3]) fun h' H' => kk h' (diskA_open.2 ⟨l, mn, ms, rn, rs, a, c, lk, H'.sel 5 [0, 1, 3, 4, 2]⟩)
theorem Names_hs (hd : DI d) (hb : d.steps < 2 ^ 38) (H : Hs h (diskA p d :: L)) (kk : ∀ h' a c, Hs h' (own a d.names.length c T_string 1 (d.names.map Value.string) :: diskA p d :: L) → Q (.slice a d.names.length c) h') :
    SpecH PP F_disk_Disk_Names [.pointer (some ⟨p, 0, none⟩)] h Q := by
  obtain ⟨l, mn, ms, rn, rs, a, c, lk, H1⟩ := diskA_open.1 H
  unfold DS.names at kk
  refine disk_Disk_Names.door (ready_hs H1 ⟨_, rfl, ?_⟩)
  cases hdn : d.down with
  | true => rw [if_pos hdn] at kk; exact br_true rfl (kk h none 0 (H.own_nil _ _))
  | false =>
    rw [if_neg (by rw [hdn]; simp)] at kk
    refine br_false rfl ⟨_, H1.cell (off := 1) rfl, ?_⟩
    refine Keys_hs H1 fun h2 t1 H2 => ⟨_, rfl, ?_⟩
    have hpk : (mn.map (·.1)).Perm (d.now.map (·.1)) := by have := lk.n.map (·.1); rwa [nmV_keys] at this
    have hl : mn.length = d.now.length := by have := hpk.length_eq; simpa using this
    refine Sorted_hs (by have := hd.lenn; have := hd.fl; omega) (hpk.nodup_iff.2 hd.keys) (H2.sel 3 [0, 2, 1]) fun h3 a3 c3 ns hp ho H3 => ⟨_, _, _, rfl, ?_⟩
    have e : ns = d.now.map (·.1) := rise_uniq ho (by rw [List.pairwise_map]; exact hd.risn) (hp.trans hpk)
    subst e
    exact kk h3 a3 c3 ((diskA_open.2 ⟨l, mn, ms, rn, rs, a, c, lk, H3.sel 6 [2, 1, 3, 4, 5, 0]⟩).m1)
theorem Append_hs {b : OA} {m bc : Nat} {bs : List Nat} (hd : DI d) (hb : d.steps < 2 ^ 38) (g : Gv L b (nV bs)) (hm : bs.length = m) (hm2 : m < 2 ^ 40) (hm0 : b = none → m = 0) (H : Hs h (diskA p d :: L))
    (kk : ∀ h', Hs h' (diskA p (d.append n bs).1 :: L) → Q (.int .i64 (d.append n bs).2) h') :
    SpecH PP F_disk_Disk_Append [.pointer (some ⟨p, 0, none⟩), .string n, .slice b m bc] h Q := by
  obtain ⟨l, mn, ms, rn, rs, a, c, lk, H1⟩ := diskA_open.1 H
  unfold DS.append at kk
  refine disk_Disk_Append.door (find_hs lk.n hd.keys H1 (fun e => ?_) (fun e e2 => ?_) (fun i e e2 => ?_))
  · rw [if_pos e] at kk; exact ⟨_, _, rfl, br_true rfl (kk h H)⟩
  · rw [if_neg (by rw [e]; simp), e2] at kk; exact ⟨_, _, rfl, br_true rfl (kk h H)⟩
  rw [if_neg (by rw [e]; simp), e2] at kk
  refine ⟨_, _, rfl, br_false rfl ?_⟩
  have hu : d.used ≤ 2 ^ 61 := by unfold DS.used; rw [if_neg (by rw [e]; simp)]; exact used_le hd hb
  have hr := hd.room
  have ew : IntKind.i64.wrap ((d.room : Int) - ((d.used : Nat) : Int)) = (d.room : Int) - d.used := wrap_i64_z (by omega) (by omega)
  have fin : ∀ {h : Heap}, Hs h (pt p T_disk_Disk (dkV d rn rs a c) :: mp Value.string ptrV rn mn :: fam filB l :: mp Value.string ptrV rs ms :: own a d.chg.length c T_disk_change 3 (d.chg.flatMap (chV l)) :: L) →
      disk_Disk_Append.J1 (some ⟨p, 0, none⟩) b m bc (some ⟨blk l i, 0, none⟩) (decide ((m : Int) > (d.room : Int) - d.used)) Q h := by
    intro h H1
    refine disk_Disk_Append.J1_of ((br_iff _ _ _).2 ⟨fun q => ?_, fun q => ?_⟩)
    · have q := of_decide_eq_true q
      simp only [if_pos (show (d.room : Int) - d.used < bs.length by rw [hm]; omega)] at kk
      exact kk h (diskA_open.2 ⟨l, mn, ms, rn, rs, a, c, lk, H1.sel 5 [0, 1, 3, 4, 2]⟩)
    have q := of_decide_eq_false q
    simp only [if_neg (show ¬ (d.room : Int) - d.used < bs.length by rw [hm]; omega)] at kk
    have hf := lkfil lk e2
    obtain ⟨a1, n1, c1, H2⟩ := fil_at lk.nd hf H1.m2
    have hl := H2.m1.own_len
    rw [nV_len, Nat.mul_one] at hl
    subst hl
    refine ⟨_, _, _, H2.cell (off := 0) rfl, _, _, _, H2.cell (off := 0) rfl, _, _, _, H2.cell (off := 0) rfl, ?_⟩
    refine slice_full E_sl_uint8 H2.m1.own_le ⟨_, _, _, rfl, ?_⟩
    have H3 := H2.m1.own_full
    have hfl := (hd.fl_ok i).2
    have hgL := g _ (H1.sel 5 [])
    refine H3.app_sl E_sl_uint8 (m := m) (ys := nV bs) hgL (by rw [nV_len]; omega) hm0 (nV_one _) (fun h3 a' c' H4 => ⟨_, _, _, rfl, ?_⟩) (by omega) (by omega)
    refine H4.m1.sto (off := 0) (by simp) fun h4 H5 => ?_
    have en : nV (d.fl i).bs ++ nV bs = nV ((d.fl i).bs ++ bs) := (nV_app _ _).symm
    rw [en] at H5
    refine done_hs e (by omega) hd.lf H5.m3 fun h5 H6 => ⟨_, rfl, kk h5 (diskA_open.2 ⟨mset l i (blk l i, ⟨(d.fl i).bs ++ bs, (d.fl i).safe⟩), mn, ms, rn, rs, a, c, (lk.setf hf _).tick, ?_⟩)⟩
    have ec : (d.fl i).bs.length + m = ((d.fl i).bs ++ bs).length := by rw [List.length_append, hm]
    rw [ec] at H6
    have H7 := (filB_open (x := (blk l i, ⟨(d.fl i).bs ++ bs, (d.fl i).safe⟩))).2 ⟨a', _, c', H6.sel 3 [1, 2, 0]⟩
    have H8 := Hs.fam_put (k := i) (x := (blk l i, ⟨(d.fl i).bs ++ bs, (d.fl i).safe⟩)) (H7.sel 3 [0, 2, 1]) lk.nd
    have hcs : (d.chg.flatMap (chV (mset l i (blk l i, ⟨(d.fl i).bs ++ bs, (d.fl i).safe⟩)))) = d.chg.flatMap (chV l) := chVs_congr fun c _ _ => blk_set hf _
    show Hs h5 (pt p T_disk_Disk (dkV d.tick rn rs a c) :: mp Value.string ptrV rn mn :: mp Value.string ptrV rs ms :: own a d.chg.length c T_disk_change 3 (d.chg.flatMap (chV (mset l i (blk l i, ⟨(d.fl i).bs ++ bs, (d.fl i).safe⟩)))) :: fam filB (mset l i (blk l i, ⟨(d.fl i).bs ++ bs, (d.fl i).safe⟩)) :: L)
    rw [hcs]
    exact H8.sel 5 [1, 2, 3, 4, 0]
  refine ⟨⟨_, H1.cell (off := 0) rfl, ?_⟩, ?_, trivial⟩
  · refine Used_open hd hb lk (H1.sel 5 [0, 1, 4, 2, 3]) fun h' H' => ⟨_, rfl, ?_⟩
    dsimp only
    rw [ew]; exact fin H'
  · refine Used_open hd hb lk (H1.sel 5 [0, 1, 4, 2, 3]) fun h' H' => ⟨_, rfl, _, H'.cell (off := 0) rfl, ?_⟩
    dsimp only
    rw [ew]; exact fin H'
end Go.Proofs.YtjihchpobpgpeaaGreatDoor

set_option maxRecDepth 20000
set_option linter.unusedVariables false
set_option linter.unusedSimpArgs false
namespace Go.Proofs.YtjihchpobpgpeaaGreatDoor
open Go Go.HW
variable {h : Heap} {L : List Assn} {Q : Value → Heap → Prop} {p : Nat} {d : DS} {n : Nm}
theorem Hs.one {A : Assn} (H : Hs h (A :: L)) : Hs h [A] := by
  obtain ⟨m1, m2, a, l, dj, s1, s2⟩ := H
  exact ⟨m1, fun _ => none, a, trivial, fun _ => .inr rfl, s1, fun _ _ e => nomatch e⟩
theorem Gv.one {A : Assn} {a : OA} {xs : List Value} (g : Gv [A] a xs) : Gv (A :: L) a xs := fun h H => g h (Hs.one H)
def zV (cs : List Int) : List Value := cs.map (Value.int .i64)
/-- Numbers that an int can be. -/
def I64 (cs : List Int) : Prop := ∀ c ∈ cs, -9223372036854775808 ≤ c ∧ c < 9223372036854775808
theorem I64.getD {cs : List Int} (h : I64 cs) (i : Nat) : -9223372036854775808 ≤ cs.getD i 0 ∧ cs.getD i 0 < 9223372036854775808 := by
  rw [List.getD_eq_getElem?_getD]
  cases e : cs[i]? with
  | none => simp
  | some c => simpa using h c (List.mem_of_getElem? e)
/-- The choices that are left. -/
def choA (k : Nat) (cs : List Int) (L : List Assn) : Assn := fun m => ∃ a n c, (Gv L a (zV cs) ∧ cs.length = n ∧ n ≤ c ∧ (a = none → c = 0)) ∧ pt k T_sl_int [.slice a n c] m
theorem choA_open {k : Nat} {cs : List Int} {M N : List Assn} : Hs h (choA k cs M :: N) ↔ ∃ a n c, (Gv M a (zV cs) ∧ cs.length = n ∧ n ≤ c ∧ (a = none → c = 0)) ∧ Hs h (pt k T_sl_int [.slice a n c] :: N) := by
  unfold choA
  simp only [Hs.ex, Hs.and]
theorem choice_hs {k : Nat} {cs : List Int} {N : List Assn} (H : Hs h (choA k cs L :: N)) (hL : Hs h L) (kk : ∀ h', Hs h' (choA k cs.tail L :: N) → Q (.int .i64 (cs.getD 0 0)) h') :
    callV PP (.func (.func F_disk_Disk_Crash_1) #[] #[.pointer (some ⟨k, 0, none⟩)]) [] Q h := by
  refine callV_fn (by kernel_rfl) ?_
  show SpecH PP F_disk_Disk_Crash_1 [_] h Q
  obtain ⟨a, n, c, ⟨g, hn, hnc, hn0⟩, H1⟩ := choA_open.1 H
  refine disk_Disk_Crash_1.door ⟨_, _, _, H1.cell (off := 0) rfl, ?_⟩
  cases cs with
  | nil =>
    subst hn
    exact br_true rfl (kk h H)
  | cons x cs =>
    subst hn
    refine br_false (by simp; try omega) ⟨_, _, _, H1.cell (off := 0) rfl, ?_⟩
    refine idx E_sl_int (xs := zV (x :: cs)) (v := .int .i64 x) (g h hL) (by omega) (by simp) rfl fun t ht => ⟨_, ht, ?_⟩
    refine ⟨_, _, _, H1.cell (off := 0) rfl, ?_⟩
    refine cutS E_sl_int (i := 1) (j := (x :: cs).length) g (by simp [zV]) hnc hn0 (by simp) (Nat.le_refl _) rfl rfl fun a' c' g' h1 h2 h3 => ⟨_, _, _, rfl, ?_⟩
    refine H1.sto (off := 0) (by simp) fun h3' H3 => ?_
    have eg : ((zV (x :: cs)).drop (1 * 1)).take (((x :: cs).length - 1) * 1) = zV cs := by
      simp only [zV, List.map_cons, Nat.mul_one, List.drop_succ_cons, List.drop_zero, List.length_cons, Nat.add_sub_cancel]
      exact List.take_of_length_le (by simp)
    rw [eg] at g'
    exact kk _ (choA_open.2 ⟨a', _, c', ⟨g', by simp, h2, h3⟩, H3⟩)
theorem says_le (c : Int) (n : Nat) : says c n ≤ n := by
  unfold says
  have : ∀ x : Int, 0 ≤ x → (x % ((n : Int) + 1)).toNat ≤ n := fun x hx => by
    have := Int.emod_lt_of_pos x (show (0 : Int) < (n : Int) + 1 by omega)
    omega
  split
  · exact this _ (by omega)
  · exact this _ (by omega)
/-- Names, of a disk that is in the middle of a crash. -/
theorem Names_open {now : List (Nm × Nat)} {l : FM} {mn : List (Nm × Nat)} {rn rs : Nat} {a : OA} {c : Nat} (hnd : d.down = false) (hm : mn.Perm (nmV l now)) (hr : Ris now) (hlen : now.length < 2 ^ 40) (H : Hs h (pt p T_disk_Disk (dkV d rn rs a c) :: mp Value.string ptrV rn mn :: L))
    (kk : ∀ h' a2 c2, Hs h' (own a2 now.length c2 T_string 1 (now.map fun x => Value.string x.1) :: pt p T_disk_Disk (dkV d rn rs a c) :: mp Value.string ptrV rn mn :: L) → Q (.slice a2 now.length c2) h') :
    SpecH PP F_disk_Disk_Names [.pointer (some ⟨p, 0, none⟩)] h Q := by
  refine disk_Disk_Names.door (ready_hs H ⟨_, rfl, ?_⟩)
  rw [if_neg (by rw [hnd]; simp)]
  refine br_false rfl ⟨_, H.cell (off := 1) rfl, ?_⟩
  refine Keys_hs H fun h2 t1 H2 => ⟨_, rfl, ?_⟩
  have hpk : (mn.map (·.1)).Perm (now.map (·.1)) := by have := hm.map (·.1); rwa [nmV_keys] at this
  have hl : mn.length = now.length := by have := hpk.length_eq; simpa using this
  refine Sorted_hs (by omega) (hpk.nodup_iff.2 hr.nodup) (H2.sel 3 [0, 2, 1]) fun h3 a3 c3 ns hp ho H3 => ⟨_, _, _, rfl, ?_⟩
  have e : ns = now.map (·.1) := rise_uniq ho (by rw [List.pairwise_map]; exact hr) (hp.trans hpk)
  subst e
  have := kk h3 a3 c3 (by rw [show (now.map fun x => Value.string x.1) = (now.map (·.1)).map Value.string by rw [List.map_map]; rfl]; rw [List.length_map] at H3; exact H3.sel 3 [0, 2, 1])
  rw [List.length_map]; exact this
theorem mset_nmV {l : FM} {m now : List (Nm × Nat)} {x : Nm × Nat} {k : Nat} {f : Fil} (hm : m.Perm (nmV l now)) (hk : (now.map (·.1)).Nodup) (hi : (now.map (·.2)).Nodup) (hx : x ∈ now) : (mset m x.1 k).Perm (nmV (mset l x.2 (k, f)) now) := by
  have hmk : (m.map (·.1)).Nodup := by rw [(hm.map _).nodup_iff, nmV_keys]; exact hk
  refine (mset_mdel_perm hmk).trans ?_
  have h1 := mget_perm hk (mget_of_mem hk (show (x.1, x.2) ∈ now from hx))
  have h2 : (nmV (mset l x.2 (k, f)) now).Perm (nmV (mset l x.2 (k, f)) ((x.1, x.2) :: mdel now x.1)) := h1.map _
  refine List.Perm.trans ?_ h2.symm
  show List.Perm _ ((x.1, blk (mset l x.2 (k, f)) x.2) :: nmV (mset l x.2 (k, f)) (mdel now x.1))
  have e1 : blk (mset l x.2 (k, f)) x.2 = k := by unfold blk; rw [mget_mset, if_pos rfl]; rfl
  have e2 : nmV (mset l x.2 (k, f)) (mdel now x.1) = nmV l (mdel now x.1) := nmV_congr fun y hy => by
    have hy := mem_mdel.1 hy
    unfold blk; rw [mget_mset, if_neg]
    intro e
    exact hy.2 (by rw [inj_val hi hx hy.1 e])
  rw [e1, e2, nmV_del]
  exact (mdel_perm hm _).cons _
theorem nV_rep (n : Nat) : nV (List.replicate n 0) = List.replicate n (.int .u8 0) := by simp [nV]
theorem nV_take (l : List Nat) (n : Nat) : nV (l.take n) = (nV l).take n := by simp [nV, List.map_take]
theorem cut_neg {c : Int} {f : Fil} (hc : c < 0) (b : List Nat) (hb : b = f.bs.take (f.safe + says c (f.bs.length - f.safe))) (hs : f.safe ≤ b.length) : (cut c f).bs = b.take f.safe ++ List.replicate (b.length - f.safe) 0 ∧ (cut c f).safe = b.length := by
  unfold cut
  dsimp only
  rw [if_pos hc, ← hb]
  exact ⟨rfl, by simp; omega⟩
theorem cut_pos {c : Int} {f : Fil} (hc : ¬ c < 0) : (cut c f).bs = f.bs.take (f.safe + says c (f.bs.length - f.safe)) ∧ (cut c f).safe = (f.bs.take (f.safe + says c (f.bs.length - f.safe))).length := by
  unfold cut
  dsimp only
  rw [if_neg hc]
  exact ⟨rfl, rfl⟩
/-- What the rounds over the names keep. -/
structure CrL (fs : List Fil) (now : List (Nm × Nat)) (l : FM) (mn : List (Nm × Nat)) : Prop where
  nd : (l.map (·.1)).Nodup
  fl : ∀ i b f, mget l i = some (b, f) → fs[i]? = some f
  n : mn.Perm (nmV l now)
  hn : ∀ x ∈ now, mget l x.2 ≠ none
theorem CrL.put {fs : List Fil} {now : List (Nm × Nat)} {l : FM} {mn : List (Nm × Nat)} (hk : (now.map (·.1)).Nodup) (hi : (now.map (·.2)).Nodup) (h : CrL fs now l mn) {x : Nm × Nat} (hx : x ∈ now) (k : Nat) (f : Fil) : CrL (fs.set x.2 f) now (mset l x.2 (k, f)) (mset mn x.1 k) := by
  refine ⟨nodup_mset h.nd _ _, fun i b g e => ?_, mset_nmV h.n hk hi hx, fun y hy => ?_⟩
  · rw [mget_mset] at e
    by_cases q : x.2 = i
    · rw [if_pos q] at e; cases e; subst q
      cases e2 : mget l x.2 with
      | none => exact absurd e2 (h.hn x hx)
      | some y =>
        have := h.fl _ y.1 y.2 e2
        have := (List.getElem?_eq_some_iff.1 this).1
        rw [List.getElem?_set_self this]
    · rw [if_neg q] at e
      rw [List.getElem?_set_ne q]; exact h.fl i b g e
  · rw [mget_mset]; split
    · simp
    · exact h.hn y hy
theorem names_loop {fs0 : List Fil} {now : List (Nm × Nat)} {rn rs : Nat} {a a2 : OA} {c c2 k3 : Nat} {cs : List Int} (hcs : I64 cs) (hk : (now.map (·.1)).Nodup) (hi : (now.map (·.2)).Nodup) (hlen : now.length < 2 ^ 40)
    {K : Ex → Fr → Heap → Prop} (hfs0 : ∀ f ∈ fs0, f.safe ≤ f.bs.length ∧ f.bs.length ≤ 4194304)
    (kk : ∀ h' l mn, CrL (cutAll cs 1 now fs0) now l mn → Hs h' (pt p T_disk_Disk (dkV d rn rs a c) :: mp Value.string ptrV rn mn :: fam filB l :: L) → K (.exit 2) (disk_Disk_Crash.X2 (some ⟨p, 0, none⟩)) h') :
    ∀ (r j : Nat) {h : Heap} {fs : List Fil} {l : FM} {mn : List (Nm × Nat)}, j + r = now.length → CrL fs now l mn → (∀ f ∈ fs, f.safe ≤ f.bs.length ∧ f.bs.length ≤ 4194304) → cutAll cs (j + 1) (now.drop j) fs = cutAll cs 1 now fs0 →
      Hs h (choA k3 (cs.drop (j + 1)) L :: pt p T_disk_Disk (dkV d rn rs a c) :: mp Value.string ptrV rn mn :: fam filB l :: own a2 now.length c2 T_string 1 (now.map fun x => Value.string x.1) :: L) →
      disk_Disk_Crash.L2 (some ⟨p, 0, none⟩) (.func (.func F_disk_Disk_Crash_1) #[] #[.pointer (some ⟨k3, 0, none⟩)]) a2 now.length c2 (now.length : Nat) (j : Nat) K h := by
  intro r
  induction r with
  | zero =>
    intro j h fs l mn hj lk hfs hc H
    refine disk_Disk_Crash.L2_of (br_false (decide_eq_false (by omega)) ?_)
    rw [List.drop_of_length_le (by omega)] at hc
    have hc : fs = cutAll cs 1 now fs0 := hc
    rw [← hc] at kk
    exact kk h l mn lk (H.sel 5 [1, 2, 3])
  | succ r ih =>
    intro j h fs l mn hj lk hfs hc H
    have hjn : j < now.length := by omega
    generalize hx : now[j] = x
    have hxm : x ∈ now := hx ▸ List.getElem_mem hjn
    refine disk_Disk_Crash.L2_of (br_true (decide_eq_true (by omega)) ?_)
    refine idx E_sl_string (xs := now.map fun x => Value.string x.1) (v := .string x.1) (H.m4.rd) (by omega) (by omega) (by rw [Int.toNat_natCast, List.getElem?_map, List.getElem?_eq_getElem hjn, hx]; rfl) fun t ht => ⟨_, ht, ?_⟩
    refine ⟨_, H.m1.cell (off := 1) rfl, ?_⟩
    refine H.m2.lookup1 U_disk_names Ky_str z_fp x.1 ?_
    have hg : mget mn x.1 = some (blk l x.2) := by
      rw [mget_congr lk.n (by rw [nmV_keys]; exact hk), nmV_get, mget_of_mem hk (show (x.1, x.2) ∈ now from hxm)]; rfl
    rw [hg]
    refine ⟨_, rfl, ?_⟩
    obtain ⟨⟨b, f⟩, hf⟩ : ∃ y, mget l x.2 = some y := Option.ne_none_iff_exists'.1 (lk.hn x hxm)
    have hb : blk l x.2 = b := by unfold blk; rw [hf]; rfl
    rw [hb]
    have hfj := lk.fl _ _ _ hf
    have hfo := hfs f (List.mem_of_getElem? hfj)
    refine choice_hs H (H.sel 5 []) fun h2 H2 => ⟨_, rfl, ?_⟩
    have ecd : (cs.drop (j + 1)).getD 0 0 = cs.getD (j + 1) 0 := by
      rw [List.getD_eq_getElem?_getD, List.getD_eq_getElem?_getD, List.getElem?_drop]; try rfl
    rw [ecd]
    rw [List.tail_drop] at H2
    generalize hcj : cs.getD (j + 1) 0 = cj at *
    have hcr := hcs.getD (j + 1)
    rw [hcj] at hcr
    obtain ⟨a1, n1, c1, H3⟩ := fil_at lk.nd hf H2.m3
    have hl := H3.m1.own_len
    rw [nV_len, Nat.mul_one] at hl
    subst hl
    refine ⟨_, _, _, H3.cell (off := 0) rfl, _, H3.cell (off := 1) rfl, _, _, _, H3.cell (off := 0) rfl, _, H3.cell (off := 1) rfl, ?_⟩
    have ew : IntKind.i64.wrap ((f.bs.length : Int) - (f.safe : Int)) = ((f.bs.length - f.safe : Nat) : Int) := by rw [wrap_i64_z (by omega) (by omega)]; omega
    dsimp only
    rw [ew]
    refine ⟨_, says_pure hcr.1 hcr.2 (by omega), _, rfl, ?_⟩
    have hsl := says_le cj (f.bs.length - f.safe)
    generalize hm : says cj (f.bs.length - f.safe) = m at *
    have ew2 : IntKind.i64.wrap ((f.safe : Int) + (m : Int)) = ((f.safe + m : Nat) : Int) := by rw [wrap_i64_z (by omega) (by omega)]; omega
    rw [ew2]
    have ho0 := own_none_len H3.m1
    have hnn : a1 = none → c1 = 0 := fun q => by subst q; exact H3.m1.own_none
    refine cutS E_sl_uint8 (i := 0) (j := f.safe + m) (L := [own a1 f.bs.length c1 T_uint8 1 (nV f.bs)]) Gv.own (by rw [nV_len]; omega) H3.m1.own_le hnn (Nat.zero_le _) (by omega) rfl rfl fun a4 c4 g4 h4n h4c h40 => ⟨_, _, _, rfl, ?_⟩
    have eb : ((nV f.bs).drop (0 * 1)).take ((f.safe + m - 0) * 1) = nV (f.bs.take (f.safe + m)) := by rw [nV_take]; simp
    rw [eb] at g4
    generalize hbb : f.bs.take (f.safe + m) = bb at *
    have hbl : bb.length = f.safe + m := by rw [← hbb, List.length_take]; omega
    refine cloneB_hs (L := own a1 f.bs.length c1 T_uint8 1 (nV f.bs) :: _) (Gv.one g4) (by omega) (by omega) h4n H3.m1 fun h5 a5 c5 H5 => ⟨_, _, _, rfl, ?_⟩
    rw [show f.safe + m - 0 = bb.length by omega] at H5 ⊢
    -- the new file
    have fin : ∀ {h : Heap}, (cut cj f).bs.length = bb.length → (cut cj f).safe = bb.length →
        Hs h (own a5 bb.length c5 T_uint8 1 (nV (cut cj f).bs) :: own a1 f.bs.length c1 T_uint8 1 (nV f.bs) :: pt b T_disk_file [.slice a1 f.bs.length c1, .int .i64 (f.safe : Nat)] :: fam filB (mdel l x.2) :: choA k3 (cs.drop (j + 1 + 1)) L :: pt p T_disk_Disk (dkV d rn rs a c) :: mp Value.string ptrV rn mn :: own a2 now.length c2 T_string 1 (now.map fun x => Value.string x.1) :: L) →
        disk_Disk_Crash.J1 (some ⟨p, 0, none⟩) (.func (.func F_disk_Disk_Crash_1) #[] #[.pointer (some ⟨k3, 0, none⟩)]) x.1 a5 bb.length c5 a2 now.length c2 (now.length : Nat) (j : Nat) K h := by
      intro h e1 e2 H
      refine disk_Disk_Crash.J1_of ⟨_, H.m5.cell (off := 1) rfl, ?_⟩
      have H6 := H.new (t := T_disk_file) (cs := #[.slice a5 bb.length c5, .int .i64 (bb.length : Int)]) (xs := [.slice a5 bb.length c5, .int .i64 (bb.length : Int)])
      dsimp only
      generalize Array.size h = kn at H6 ⊢
      generalize Array.push h _ = h6 at H6 ⊢
      refine H6.m7.mset U_disk_names Ky_str x.1 kn rfl fun h7 H7 => ?_
      rw [inc (by omega)]
      have H8 := H7.sel 8 [1, 2, 5, 6, 7, 0]
      have H9 : Hs h7 (filB (kn, cut cj f) :: _) := filB_open.2 ⟨a5, bb.length, c5, by
        show Hs h7 (pt kn T_disk_file [.slice a5 bb.length c5, .int .i64 ((cut cj f).safe : Nat)] :: _)
        rw [e2]; exact H8⟩
      have H10 := Hs.fam_put (k := x.2) (x := (kn, cut cj f)) H9 lk.nd
      refine ih (j + 1) (fs := fs.set x.2 (cut cj f)) (by omega) (lk.put hk hi hxm kn _) (fun g hg => ?_) ?_ (H10.sel 4 [1, 2, 3, 0])
      · rcases List.mem_or_eq_of_mem_set hg with q | rfl
        · exact hfs g q
        · exact cut_ok _ hfo
      · rw [← hc]
        rw [List.drop_eq_getElem_cons hjn, hx]
        show _ = cutAll cs (j + 1 + 1) (now.drop (j + 1)) (fs.set x.2 (cut (cs.getD (j + 1) 0) (fs[x.2]?.getD fil0)))
        rw [hcj, hfj]; rfl
    have hsb : f.safe ≤ bb.length := by omega
    have eL : Hs h5 (own a5 bb.length c5 T_uint8 1 (nV bb) :: own a1 f.bs.length c1 T_uint8 1 (nV f.bs) :: pt b T_disk_file [.slice a1 f.bs.length c1, .int .i64 (f.safe : Nat)] :: fam filB (mdel l x.2) :: choA k3 (cs.drop (j + 1 + 1)) L :: pt p T_disk_Disk (dkV d rn rs a c) :: mp Value.string ptrV rn mn :: own a2 now.length c2 T_string 1 (now.map fun x => Value.string x.1) :: L) :=
      H5
    refine (br_iff _ _ _).2 ⟨fun e => ?_, fun e => ?_⟩
    · have e := of_decide_eq_true e
      obtain ⟨e1, e2⟩ := cut_neg (f := f) e bb (by rw [hm, hbb]) hsb
      refine ⟨_, eL.m2.cell (off := 1) rfl, ?_⟩
      refine eL.clear E_sl_uint8 rfl rfl hsb fun h6 H6 => ?_
      have ee : (nV bb).take f.safe ++ List.replicate (bb.length - f.safe) (.int .u8 0) = nV (cut cj f).bs := by rw [e1, nV_app, nV_take, nV_rep]
      rw [ee] at H6
      exact fin (by rw [e1]; simp; omega) e2 H6
    · have e := of_decide_eq_false e
      obtain ⟨e1, e2⟩ := cut_pos (f := f) e
      rw [hm, hbb] at e1 e2
      refine fin (by rw [e1]) e2 ?_
      rw [e1]; exact eL
theorem aps_take {l : List (Nm × Nat)} {cs : List Chg} {j : Nat} (hj : j < cs.length) : aps l (cs.take (j + 1)) = ap (aps l (cs.take j)) cs[j] := by
  rw [List.take_succ_eq_append_getElem hj, aps_snoc]
theorem chg_loop {rn rs : Nat} {a a4 : OA} {c c4 m : Nat} {cv : Value} {l : FM} {R : List Assn} {K : Ex → Fr → Heap → Prop} (hd : DI d) (hm : m ≤ d.chg.length) (hsz : d.chg.length < 2 ^ 40)
    (g : Gv [own a d.chg.length c T_disk_change 3 (d.chg.flatMap (chV l))] a4 ((d.chg.take m).flatMap (chV l)))
    {e : DS} (kk : ∀ h' mn, mn.Perm (nmV l (aps d.safe (d.chg.take m))) → Hs h' (pt p T_disk_Disk (dkV e rn rs a c) :: mp Value.string ptrV rn mn :: own a d.chg.length c T_disk_change 3 (d.chg.flatMap (chV l)) :: R) → K (.exit 0) (disk_Disk_Crash.X0 (some ⟨p, 0, none⟩) cv) h') :
    ∀ (r j : Nat) {h : Heap} {mn : List (Nm × Nat)}, j + r = m → mn.Perm (nmV l (aps d.safe (d.chg.take j))) →
      Hs h (pt p T_disk_Disk (dkV e rn rs a c) :: mp Value.string ptrV rn mn :: own a d.chg.length c T_disk_change 3 (d.chg.flatMap (chV l)) :: R) →
      disk_Disk_Crash.L1 (some ⟨p, 0, none⟩) cv a4 m c4 (m : Nat) (j : Nat) K h := by
  intro r
  induction r with
  | zero =>
    intro j h mn hj hp H
    have : j = m := by omega
    subst this
    exact disk_Disk_Crash.L1_of (br_false (decide_eq_false (by omega)) (kk h mn hp H))
  | succ r ih =>
    intro j h mn hj hp H
    have hjm : j < m := by omega
    have hjn : j < d.chg.length := by omega
    refine disk_Disk_Crash.L1_of (br_true (decide_eq_true (by omega)) ?_)
    refine idxf E_sl_disk_change (φ := chV l) (l := d.chg.take m) (x := d.chg[j]) (g h (Hs.one H.m2)) (chV_len l) (by decide) (by omega) (by omega) (by rw [Int.toNat_natCast, List.getElem?_take_of_lt hjm, List.getElem?_eq_getElem hjn]) fun t ht => ⟨_, _, _, ht, ?_⟩
    have H2 := H.new (t := T_disk_change) (cs := #[.string ⟨#[]⟩, .string ⟨#[]⟩, .pointer none]) (xs := [.string ⟨#[]⟩, .string ⟨#[]⟩, .pointer none])
    dsimp only
    generalize Array.size h = kn at H2 ⊢
    generalize Array.push h _ = h2 at H2 ⊢
    refine Hs.wrs (b := kn) (vs := chV l d.chg[j]) H2 (fun h3 H3 => ?_) rfl (chV_one l _)
    refine ⟨_, H3.m1.cell (off := 1) rfl, _, _, _, H3.rdc0, ?_⟩
    refine do_hs (b := blk l d.chg[j].f) (fun q => by unfold cptr; rw [if_neg q]) H3.m2 fun h4 H4 => ⟨rfl, ?_⟩
    rw [inc (by omega)]
    refine ih (j + 1) (by omega) ?_ (H4.sel 4 [2, 0, 3])
    rw [aps_take hjn]
    exact doM_perm hp (hd.ris.aps).nodup
theorem Crash_hs {b : OA} {m bc : Nat} {cs : List Int} (hd : DI d) (hb : d.steps < 2 ^ 38) (g : Gv L b (zV cs)) (hm : cs.length = m) (hmc : m ≤ bc) (hm0 : b = none → bc = 0) (hcs : I64 cs) (hL : Hs h L) (H : Hs h (diskA p d :: L))
    (kk : ∀ h', Hs h' (diskA p (d.crash cs) :: L) → Q (.int .i64 0) h') :
    SpecH PP F_disk_Disk_Crash [.pointer (some ⟨p, 0, none⟩), .slice b m bc] h Q := by
  obtain ⟨l, mn, ms, rn, rs, a, c, lk, H1⟩ := diskA_open.1 H
  refine disk_Disk_Crash.door ?_
  have H2 := H1.new (t := T_sl_int) (cs := #[.slice b m bc]) (xs := [.slice b m bc])
  dsimp only
  generalize Array.size h = k3 at H2 ⊢
  generalize Array.push h _ = h1 at H2 ⊢
  refine br_false rfl ?_
  refine H2.m1.sto (off := 5) (by simp [dkV]) fun h3 H3 => ?_
  refine H3.sto (off := 6) (by simp [dkV]) fun h4 H4 => ?_
  refine ⟨_, H4.cell (off := 2) rfl, ?_⟩
  refine MClone_hs H4.m3 fun h5 r5 H5 => ⟨_, rfl, ?_⟩
  refine H5.m2.sto (off := 1) (by simp [dkV]) fun h6 H6 => ?_
  have e2 : ((((dkV d rn rs a c).set 5 (.bool false)).set 6 (.int .i64 0)).set 1 (.map (some r5))) = dkV { d with left := none } r5 rs a c := by simp [dkV]
  rw [e2] at H6
  have H7 : Hs h6 (choA k3 cs L :: _) := choA_open.2 ⟨b, m, bc, ⟨g, hm, hmc, hm0⟩, H6.m3⟩
  have H7 := H7.sel 7 [0, 1, 2, 5, 6]
  have hcl := hd.cl
  have hc0 := hcs.getD 0
  have fin : ∀ {h : Heap}, Hs h (choA k3 cs.tail L :: pt p T_disk_Disk (dkV { d with left := none } r5 rs a c) :: mp Value.string ptrV r5 ms :: own a d.chg.length c T_disk_change 3 (d.chg.flatMap (chV l)) :: fam filB l :: L) →
      hwp PP (Instr.sliceAt T_sl_disk_change (.slice a d.chg.length c) none (some (.int .i64 (says (cs.getD 0 0) d.chg.length : Nat))) none) (fun v_15 h15 => ∃ (t42_4 : OA) (t42_4n t42_4c : Nat), v_15 = (.slice t42_4 t42_4n t42_4c) ∧
        disk_Disk_Crash.L1 (some ⟨p, 0, none⟩) (.func (.func F_disk_Disk_Crash_1) #[] #[(.pointer (some ⟨k3, 0, none⟩))]) t42_4 t42_4n t42_4c (t42_4n : Int) 0 (disk_Disk_Crash.K1 Q) h15) h := by
    intro h H
    have hsl := says_le (cs.getD 0 0) d.chg.length
    have enow : (d.crash cs).now = aps d.safe (d.chg.take (says (cs.getD 0 0) d.chg.length)) := rfl
    have efs : (d.crash cs).files = cutAll cs 1 (aps d.safe (d.chg.take (says (cs.getD 0 0) d.chg.length))) d.files := rfl
    have hxk := hd.ixs (says (cs.getD 0 0) d.chg.length)
    have hin := hd.inj (says (cs.getD 0 0) d.chg.length)
    have hln := hd.len (says (cs.getD 0 0) d.chg.length)
    generalize hsm : says (cs.getD 0 0) d.chg.length = sm at *
    have hnn : a = none → c = 0 := fun q => by subst q; exact H.m3.own_none
    refine cutS E_sl_disk_change (i := 0) (j := sm) (L := [own a d.chg.length c T_disk_change 3 (d.chg.flatMap (chV l))]) Gv.own (by rw [flat_len (chV_len l)]) H.m3.own_le hnn (Nat.zero_le _) (by omega) rfl rfl fun a4 c4 g4 h4n h4c h40 => ⟨_, _, _, rfl, ?_⟩
    rw [flat_cut (chV_len l), List.drop_zero, Nat.sub_zero] at g4
    rw [Nat.sub_zero]
    have hris : Ris (aps d.safe (d.chg.take sm)) := hd.ris.aps
    generalize hnow : aps d.safe (d.chg.take sm) = now at *
    have hfl := hd.fl
    refine chg_loop (d := d) (e := { d with left := none }) (R := choA k3 cs.tail L :: fam filB l :: L) hd (by omega) (by omega) g4 ?_ sm 0 (by omega) lk.s (H.sel 5 [1, 2, 3, 0, 4])
    intro h8 mn8 hp8 H8
    rw [hnow] at hp8
    refine disk_Disk_Crash.L1_X0 ?_
    refine Names_open (d := { d with left := none }) rfl hp8 hris (by omega) H8 fun h9 a9 c9 H9 => ⟨_, _, _, rfl, ?_⟩
    have hcr : CrL d.files now l mn8 := ⟨lk.nd, fun i b f e => by obtain ⟨q1, q2⟩ := lk.fl i b f e; rw [← q2]; exact fl_eq q1, hp8, fun x hx => by
      rw [← hnow] at hx
      rcases mem_aps hx with q | ⟨cg, hcg, q, rfl⟩
      · exact lk.hs x q
      · exact lk.hc cg (List.mem_of_mem_take hcg) q⟩
    have ht : cs.tail = cs.drop (0 + 1) := by simp
    rw [ht] at H9
    refine names_loop (d := { d with left := none }) (fs0 := d.files) hcs hris.nodup hin (by omega) hd.fil ?_ now.length 0 (by omega) hcr hd.fil (by rw [List.drop_zero]) (H9.sel 6 [4, 1, 2, 5, 0])
    intro h10 l10 mn10 lk10 H10
    refine disk_Disk_Crash.L2_X2 ⟨_, H10.cell (off := 1) rfl, ?_⟩
    refine MClone_hs H10.m1 fun h11 r11 H11 => ⟨_, rfl, ?_⟩
    refine H11.m2.sto (off := 2) (by simp [dkV]) fun h12 H12 => ?_
    refine H12.sto (off := 3) (by simp [dkV]) fun h13 H13 => ?_
    have e3 : (((dkV { d with left := none } r5 rs a c).set 2 (.map (some r11))).set 3 (.slice none 0 0)) = dkV (d.crash cs) r5 r11 none 0 := by simp [dkV, DS.crash]
    rw [e3] at H13
    have hfe : (d.crash cs).files = cutAll cs 1 now d.files := by rw [efs]
    have hne : (d.crash cs).now = now := enow
    have hse : (d.crash cs).safe = now := enow
    refine kk h13 (diskA_open.2 ⟨l10, mn10, mn10, r5, r11, none, 0, ⟨lk10.nd, fun i b f e => ?_, by rw [hne]; exact lk10.n, by rw [hse]; exact lk10.n, by rw [hne]; exact lk10.hn, by rw [hse]; exact lk10.hn, nofun⟩, ?_⟩)
    · have := lk10.fl i b f e
      rw [← hfe] at this
      refine ⟨(List.getElem?_eq_some_iff.1 this).1, ?_⟩
      unfold DS.fl; rw [this]; rfl
    · exact (H13.own_nil T_disk_change 3).sel 5 [1, 3, 2, 0, 4]
  have hsp : ∀ v : Int, v = ((d.chg.length : Nat) : Int) → PureAt PP F_disk_says [.int .i64 (cs.getD 0 0), .int .i64 v] (.int .i64 (says (cs.getD 0 0) d.chg.length : Nat)) := fun v hv => by
    subst hv; exact says_pure hc0.1 hc0.2 (by omega)
  have hL6 : Hs h6 L := H7.sel 5 []
  refine ⟨⟨_, _, _, H7.m1.cell (off := 3) rfl, ?_, ?_, trivial⟩, ?_, ⟨_, _, _, H7.m1.cell (off := 3) rfl, ⟨_, _, _, H7.m1.cell (off := 3) rfl, ?_⟩, ?_, trivial⟩, trivial⟩
  · exact choice_hs H7 hL6 fun h8 H8 => ⟨_, rfl, _, _, _, H8.m1.cell (off := 3) rfl, _, hsp _ rfl, _, rfl, fin H8⟩
  · exact ⟨_, _, _, H7.m1.cell (off := 3) rfl, choice_hs H7 hL6 fun h8 H8 => ⟨_, rfl, _, hsp _ rfl, _, rfl, fin H8⟩⟩
  · exact choice_hs H7 hL6 fun h8 H8 => ⟨_, rfl, _, _, _, H8.m1.cell (off := 3) rfl, _, _, _, H8.m1.cell (off := 3) rfl, _, hsp _ rfl, _, rfl, fin H8⟩
  · exact choice_hs H7 hL6 fun h8 H8 => ⟨_, rfl, _, hsp _ rfl, _, rfl, fin H8⟩
  · exact choice_hs H7 hL6 fun h8 H8 => ⟨_, rfl, _, _, _, H8.m1.cell (off := 3) rfl, _, hsp _ rfl, _, rfl, fin H8⟩
end Go.Proofs.YtjihchpobpgpeaaGreatDoor

set_option maxRecDepth 20000
set_option linter.unusedVariables false
set_option linter.unusedSimpArgs false
namespace Go.Proofs.YtjihchpobpgpeaaGreatDoor
open Go Go.HW
variable {h : Heap} {L : List Assn} {Q : Value → Heap → Prop} {p : Nat} {d : DS} {n : Nm}
theorem ownB_nil (H : Hs h L) : Hs h (ownB none 0 0 T_uint8 [] :: L) := ownB_open.2 ⟨[], ⟨rfl, rfl⟩, H.own_nil _ _⟩
theorem cloneZ_hs {a : OA} {m c : Nat} {bs : List Nat} (g : Gv L a (nV bs)) (hm : bs.length = m) (hb : m < 2 ^ 40) (hn : a = none → m = 0) (H : Hs h L) (kk : ∀ h' a' c', c' < 2 ^ 63 → Hs h' (ownB a' m c' T_uint8 bs :: L) → Q (.slice a' m c') h') :
    SpecH PP F_slices_Clone_byte_byte [.slice a m c] h Q := by
  refine slices_Clone_byte_byte.door ?_
  cases a with
  | none =>
    have : m = 0 := hn rfl
    subst this
    have : bs = [] := List.length_eq_zero_iff.1 hm
    subst this
    exact br_true rfl (kk h none 0 (by omega) (ownB_nil H))
  | some a =>
    refine br_false rfl ?_
    have H1 := H.new (t := T_uint8) (cs := #[]) (xs := [])
    dsimp only
    generalize Array.size h = k at H1 ⊢
    generalize Array.push h _ = h1 at H1 ⊢
    by_cases h0 : m = 0
    · subst h0
      have : bs = [] := List.length_eq_zero_iff.1 hm
      subst this
      refine hwp_append_0 E_sl_uint8 (Nat.le_refl _) ⟨_, _, _, rfl, kk h1 (some ⟨k, 0, none⟩) 0 (by omega) (ownB_open.2 ⟨[], ⟨rfl, rfl⟩, ?_⟩)⟩
      exact H1.pt_own 0 rfl rfl (Nat.le_refl _) (by simp)
    · refine hwp_append_z E_sl_uint8 rfl rfl (ut := .slice T_uint8) U_sl_uint8 rfl (xs := []) (ys := nV bs) (m := m) (by omega) rfl (fun i v hv => by simp at hv) (fun e => nomatch e) ⟨rfl, by rw [nV_len]; omega, g _ H1.tl, fun e => nomatch e⟩ (by omega) (by omega) fun c' hc' hc2 => ⟨_, _, _, rfl, ?_⟩
      rw [Nat.zero_add] at hc' ⊢
      rw [List.nil_append]
      have ez : nV bs ++ List.replicate (c' - m) (.int .u8 0) = nV (bs ++ List.replicate (c' - m) 0) := by rw [nV_app, nV_rep]
      rw [ez]
      have H2 := H1.tl.new (t := T_uint8) (cs := (nV (bs ++ List.replicate (c' - m) 0)).toArray) (xs := nV (bs ++ List.replicate (c' - m) 0))
      refine kk _ _ c' hc2 (ownB_open.2 ⟨List.replicate (c' - m) 0, ⟨by simp; omega, hm⟩, H2.pt_own (n := c') (c := c') 0 ?_ ?_ (Nat.le_refl _) ?_⟩)
      · rw [List.drop_zero, List.take_of_length_le]; rw [nV_len]; simp; omega
      · rw [nV_len]; simp; omega
      · rw [nV_len]; simp; omega
theorem ReadZ_hs (hd : DI d) (H : Hs h (diskA p d :: L)) (kk : ∀ h' a c, c < 2 ^ 63 → Hs h' (ownB a (d.read n).1.length c T_uint8 (d.read n).1 :: diskA p d :: L) → Q (.tuple #[.slice a (d.read n).1.length c, .int .i64 (d.read n).2]) h') :
    SpecH PP F_disk_Disk_Read [.pointer (some ⟨p, 0, none⟩), .string n] h Q := by
  obtain ⟨l, mn, ms, rn, rs, a, c, lk, H1⟩ := diskA_open.1 H
  unfold DS.read at kk
  refine disk_Disk_Read.door (find_hs lk.n hd.keys H1 (fun e => ?_) (fun e e2 => ?_) (fun i e e2 => ?_))
  · rw [if_pos e] at kk; exact ⟨_, _, rfl, br_true rfl (kk h none 0 (by omega) (ownB_nil H))⟩
  · rw [if_neg (by rw [e]; simp), e2] at kk; exact ⟨_, _, rfl, br_true rfl (kk h none 0 (by omega) (ownB_nil H))⟩
  rw [if_neg (by rw [e]; simp), e2] at kk
  have hf := lkfil lk e2
  obtain ⟨a1, n1, c1, H2⟩ := fil_at lk.nd hf H1.m4
  have hl := H2.m1.own_len
  rw [nV_len, Nat.mul_one] at hl
  refine ⟨_, _, rfl, br_false rfl ⟨_, _, _, H2.cell (off := 0) rfl, ?_⟩⟩
  subst hl
  refine cloneZ_hs (L := own a1 (d.fl i).bs.length c1 T_uint8 1 (nV (d.fl i).bs) :: _) Gv.own rfl (by have := (hd.fl_ok i).2; omega) (own_none_len H2.m1) H2.m1 fun h3 a3 c3 hc3 H3 => ⟨_, _, _, rfl, kk h3 a3 c3 hc3 ?_⟩
  have H4 := (filB_open (x := (blk l i, d.fl i))).2 ⟨a1, _, c1, H3.sel 3 [2, 1, 0]⟩
  have H5 := Hs.fam_back (k := i) (x := (blk l i, d.fl i)) (H4.sel 3 [0, 2, 1]) lk.nd hf
  exact (diskA_open.2 ⟨l, mn, ms, rn, rs, a, c, lk, H5.sel 6 [2, 3, 4, 5, 0, 1]⟩).m1
end Go.Proofs.YtjihchpobpgpeaaGreatDoor

set_option maxRecDepth 20000
set_option linter.unusedVariables false
set_option linter.unusedSimpArgs false
namespace Go.Proofs.YtjihchpobpgpeaaGreatDoor
open Go Go.HW
variable {h : Heap} {L : List Assn} {Q : Value → Heap → Prop} {a : OA} {n c : Nat} {xs : List Nat}
theorem nV_nb (hx : ∀ x ∈ xs, x < 256) : nV xs = byV (nb xs) := by
  unfold nV byV nb
  rw [List.map_map]
  refine List.map_congr_left fun x hm => ?_
  simp only [Function.comp, BitVec.toNat_ofNat, Nat.mod_eq_of_lt (hx x hm)]
theorem byV_bn (bs : List (BitVec 8)) : byV bs = nV (bn bs) := by
  unfold nV byV bn
  rw [List.map_map]; rfl
theorem nb_len (xs : List Nat) : (nb xs).length = xs.length := by simp [nb]
theorem bn_app (x y : List (BitVec 8)) : bn (x ++ y) = bn x ++ bn y := by simp [bn]
theorem s22 : ∃ i, PP.info? T_uint32 = some i ∧ i.size = 1 := size_of (by kernel_rfl)
/-- The table's cells. -/
def Tab (h : Heap) : Prop := ∀ i : Nat, i < 16 → cellH h ⟨G_little_steps, i, none⟩ = some (.int .u32 (Crc.four (BitVec.ofNat 32 i)).toNat)
theorem Tab.keep {h h' : Heap} (t : Tab h) (e : ExtB h.size h h') : Tab h' := fun i hi => by
  have h0 := t i hi
  rw [cell_block (h := h)]
  · exact h0
  · exact e.2 _ (cell_lt h0)
def TabL (L : List Assn) : Prop := ∀ h, Hs h L → Tab h
theorem TabL.cons {A : Assn} (t : TabL L) : TabL (A :: L) := fun h H => t h H.tl
theorem TabL.ro {h0 : Heap} (t : Tab h0) : TabL (ro h0 :: L) := fun h H => t.keep H.ro_below
theorem all32 : IntKind.u32.max = ((~~~(0 : BitVec 32)).toNat : Int) := by decide
theorem not32 (s : BitVec 32) : bXor .u32 IntKind.u32.max s.toNat = ((~~~s).toNat : Int) := by
  rw [all32, xor32]
  have : (~~~(0 : BitVec 32)) ^^^ s = ~~~s := by
    apply BitVec.eq_of_getLsbD_eq; intro i hi
    rw [BitVec.getLsbD_xor, BitVec.getLsbD_not, BitVec.getLsbD_not, show (0 : BitVec 32).getLsbD i = false from BitVec.getLsbD_zero, decide_eq_true hi]; simp
  rw [this]
theorem and15 (r : BitVec 32) : bAnd .u32 r.toNat 15 = ((r &&& 15#32).toNat : Int) := and32 r 15#32
theorem low4 (r : BitVec 32) : (r &&& 15#32).toNat < 16 := by
  rw [BitVec.toNat_and]
  exact Nat.lt_of_le_of_lt Nat.and_le_right (by decide)
theorem four_tab (r : BitVec 32) : (r >>> 4) ^^^ Crc.four (BitVec.ofNat 32 (r &&& 15#32).toNat) = Crc.four r := by
  rw [Crc.four_eq r]; congr 2; simp
theorem tab_at {h : Heap} (tab : Tab h) (r : BitVec 32) {R : Int → Heap → Prop} (H : R (Crc.four (BitVec.ofNat 32 (r &&& 15#32).toNat)).toNat h) :
    hwp PP (Instr.indexAt T_16_uint32 (.pointer (some ⟨G_little_steps, 0, none⟩)) (.int .u32 ((r &&& 15#32).toNat : Int))) (fun v h2 => ∃ (t : Addr), v = (.pointer (some t)) ∧ ∃ x, cellH h2 t = some (.int .u32 x) ∧ R x h2) h := by
  have hl := low4 r
  refine hwp_indexArr U_16_uint32 s22 (by omega) (by omega) ⟨_, rfl, _, ?_, H⟩
  rw [add_mk]
  have := tab _ hl
  simpa using this
theorem sum_spec {bs : List (BitVec 8)} (tab : Tab h) (hr : Rd h a (byV bs)) (hn : bs.length = n) (hmax : n < 2 ^ 62) (H : Q (.int .u32 (Crc.sum bs).toNat) h) : SpecH PP F_little_Sum [.slice a n c] h Q := by
  refine little_Sum.door (little_More.door ?_)
  have go : ∀ (k i : Nat) (r : BitVec 32), i + k = n → Crc.run r (bs.drop i) = Crc.run (~~~(0 : BitVec 32)) bs → little_More.L1 r.toNat a n c n i (little_More.K1 fun v h1 => ∃ (t4 : Int), v = (.int .u32 t4) ∧ Q (.int .u32 t4) h1) h := by
    intro k
    induction k with
    | zero =>
      intro i r hi e
      refine little_More.L1_of (br_false (decide_eq_false (by omega)) (little_More.L1_X0 ⟨_, rfl, ?_⟩))
      rw [List.drop_of_length_le (by omega)] at e
      have e : r = Crc.run (~~~(0 : BitVec 32)) bs := e
      rw [not32, e]; exact H
    | succ k ih =>
      intro i r hi e
      have hlt : i < bs.length := by omega
      refine little_More.L1_of (br_true (decide_eq_true (by omega)) ?_)
      refine rd_u8 E_sl_uint8 hr (by omega) (by omega) (by simpa using hlt) ?_
      simp only [Int.toNat_natCast, wrap32b, xor32, shr32, and15]
      refine tab_at tab _ ?_
      simp only [xor32, shr32, and15, Int.reduceToNat, four_tab]
      refine tab_at tab _ ?_
      simp only [xor32, Int.reduceToNat, four_tab]
      rw [inc (by omega)]
      refine ih (i + 1) _ (by omega) ?_
      rw [← List.getElem_cons_drop hlt] at e
      exact e
  have e0 : bXor .u32 IntKind.u32.max 0 = ((~~~(0 : BitVec 32)).toNat : Int) := not32 0
  dsimp only
  rw [e0]
  exact go n 0 _ (by omega) rfl
theorem Sum_hs (t : TabL L) (hx : ∀ x ∈ xs, x < 256) (hr : Rd h a (nV xs)) (hn : xs.length = n) (hmax : n < 2 ^ 62) (H : Hs h L) (kk : Q (.int .u32 (crc xs : Nat)) h) : SpecH PP F_little_Sum [.slice a n c] h Q :=
  sum_spec (t h H) (by rw [← nV_nb hx]; exact hr) (by rw [nb_len]; exact hn) hmax kk
theorem put_hs {v : BitVec 64} {k : Nat} (hk : k ≤ 8) (g : Gv L a (nV xs)) (hn : xs.length = n) (hmax : n < 2 ^ 40) (hn0 : a = none → n = 0) (H : Hs h L)
    (kk : ∀ h' a' c', Hs h' (own a' (n + k) c' T_uint8 1 (nV (xs ++ bn (Num.le k v))) :: L) → Q (.slice a' (n + k) c') h') : SpecH PP F_little_put [.slice a n c, .int .u64 v.toNat, .int .i64 (k : Nat)] h Q := by
  refine little_put.door ?_
  have ew : IntKind.i64.wrap ((n : Int) + (k : Int)) = ((n + k : Nat) : Int) := by rw [wrap_i64_z (by omega) (by omega)]; simp
  dsimp only
  rw [ew]
  refine H.make E_sl_uint8 rfl rfl (by omega) (by omega) (by omega) fun h1 b H1 => ⟨_, _, _, rfl, ?_⟩
  refine H1.copy (off := 0) (ys := nV xs) E_sl_uint8 (by rw [nV_len]; simp; omega) (g _ H1.tl) hn0 (by rw [nV_len, hn, Nat.min_self, Nat.mul_one]) (nV_one _) fun h2 H2 => ⟨_, rfl, ?_⟩
  have e1 : (List.replicate (n + k) (Value.int .u8 0)).take 0 ++ nV xs ++ (List.replicate (n + k) (Value.int .u8 0)).drop (0 + (nV xs).length) = nV xs ++ List.replicate k (.int .u8 0) := by
    rw [List.take_zero, List.nil_append, nV_len, hn, List.drop_replicate]; congr 2; omega
  rw [e1] at H2
  have H3 := H2.pt_own (n := n) (c := n + k) (sz := 1) (xs := nV xs) 0 (by rw [List.drop_zero, Nat.mul_one, List.take_left' (by rw [nV_len, hn])]) (by rw [nV_len]; omega) (by omega) (by simp [nV_len, hn])
  have go : ∀ (q i : Nat) (w : BitVec 64) {h : Heap} {a : OA} {c : Nat} {pre : List Nat}, i + q = k → pre ++ bn (Num.le q w) = xs ++ bn (Num.le k v) → Hs h (own a pre.length c T_uint8 1 (nV pre) :: L) →
      little_put.L1 w.toNat a pre.length c k (i : Nat) (little_put.K1 Q) h := by
    intro q
    induction q with
    | zero =>
      intro i w h a c pre hi e H
      have e : pre = xs ++ bn (Num.le k v) := by rw [← e]; simp [Num.le, bn]
      subst e
      refine little_put.L1_of (br_false (decide_eq_false (by omega)) (little_put.L1_X0 ?_))
      have el : (xs ++ bn (Num.le k v)).length = n + k := by rw [List.length_append, hn]; simp [bn, Num.le_len]
      rw [el] at H ⊢
      exact kk h a c H
    | succ q ih =>
      intro i w h a c pre hi e H
      have hpl : pre.length ≤ n + k := by
        have := congrArg List.length e
        simp [bn, Num.le_len] at this; omega
      refine little_put.L1_of (br_true (decide_eq_true (by omega)) ?_)
      dsimp only
      simp only [wrap8, shr64, Int.reduceToNat]
      rw [inc (by omega)]
      refine H.app_vals E_sl_uint8 (m := 1) (ys := [.int .u8 ((w.setWidth 8).toNat : Nat)]) rfl rfl (by simp [oneC]) (fun h' a' c' H' => ⟨_, _, _, rfl, ?_⟩) (by omega) (by omega)
      have e2 : nV pre ++ [Value.int .u8 ((w.setWidth 8).toNat : Nat)] = nV (pre ++ [(w.setWidth 8).toNat]) := by simp [nV]
      rw [e2] at H'
      have := ih (i + 1) (w >>> 8) (pre := pre ++ [(w.setWidth 8).toNat]) (by omega) (by rw [← e]; simp [Num.le, bn]) (by rw [List.length_append]; exact H')
      rw [List.length_append] at this
      exact this
  have := go k 0 v (pre := xs) (by omega) rfl (by rw [hn]; exact H3)
  rw [hn] at this
  exact this
theorem Put32_hs {v : Nat} (hv : v < 4294967296) (g : Gv L a (nV xs)) (hn : xs.length = n) (hmax : n < 2 ^ 40) (hn0 : a = none → n = 0) (H : Hs h L)
    (kk : ∀ h' a' c', Hs h' (own a' (n + 4) c' T_uint8 1 (nV (xs ++ lek 4 v)) :: L) → Q (.slice a' (n + 4) c') h') : SpecH PP F_little_Put32 [.slice a n c, .int .u32 (v : Nat)] h Q := by
  have e : IntKind.u64.wrap ((v : Nat) : Int) = ((BitVec.ofNat 64 v).toNat : Nat) := by
    rw [wrap_u64_id (by omega), BitVec.toNat_ofNat, Nat.mod_eq_of_lt (by omega)]
  refine little_Put32.door ?_
  dsimp only
  rw [e]
  exact put_hs (k := 4) (by decide) g hn hmax hn0 H fun h' a' c' H' => ⟨_, _, _, rfl, kk h' a' c' H'⟩
theorem Put64_hs {v : Nat} (hv : v < 2 ^ 64) (g : Gv L a (nV xs)) (hn : xs.length = n) (hmax : n < 2 ^ 40) (hn0 : a = none → n = 0) (H : Hs h L)
    (kk : ∀ h' a' c', Hs h' (own a' (n + 8) c' T_uint8 1 (nV (xs ++ lek 8 v)) :: L) → Q (.slice a' (n + 8) c') h') : SpecH PP F_little_Put64 [.slice a n c, .int .u64 (v : Nat)] h Q := by
  have e : ((v : Nat) : Int) = ((BitVec.ofNat 64 v).toNat : Nat) := by
    rw [BitVec.toNat_ofNat, Nat.mod_eq_of_lt (by omega)]
  refine little_Put64.door ?_
  rw [e]
  exact put_hs (k := 8) (by decide) g hn hmax hn0 H fun h' a' c' H' => ⟨_, _, _, rfl, kk h' a' c' H'⟩
end Go.Proofs.YtjihchpobpgpeaaGreatDoor

set_option maxRecDepth 20000
set_option linter.unusedVariables false
set_option linter.unusedSimpArgs false
namespace Go.Proofs.YtjihchpobpgpeaaGreatDoor
open Go Go.HW
variable {h : Heap} {L : List Assn} {Q : Value → Heap → Prop} {a : OA} {n c : Nat} {xs : List Nat}
def GA (v8 l df : Nat) (Lp : Loop) (ys : List (BitVec 8)) (k : Nat) : Assn := fun m => Sp [ob l (.loop Lp), ob df (.deferred (some [])), pt v8 T_uint64 [.int .u64 (Num.of (ys.drop k)).toNat]] m
theorem GA_open {v8 l df : Nat} {Lp : Loop} {ys : List (BitVec 8)} {k : Nat} {M : List Assn} : Hs h (GA v8 l df Lp ys k :: M) ↔ Hs h (ob l (.loop Lp) :: ob df (.deferred (some [])) :: pt v8 T_uint64 [.int .u64 (Num.of (ys.drop k)).toNat] :: M) := by
  unfold GA
  simp only [Hs.app, List.cons_append, List.nil_append]
theorem get_hs {at1 : Int} {k : Nat} (hx : ∀ x ∈ xs, x < 256) (g : Gv L a (nV xs)) (hn : xs.length = n) (hnc : n ≤ c) (hmax : n < 2 ^ 40) (hn0 : a = none → c = 0) (hk : k ≤ 8) (h63 : -9223372036854775808 ≤ at1) (H : Hs h L)
    (k1 : (at1 < 0 ∨ at1 > (n : Int) - k) → ∀ h', Hs h' L → Q (.tuple #[.int .u64 0, .int .i64 20]) h')
    (k2 : ∀ j : Nat, at1 = j → j + k ≤ n → ∀ h', Hs h' L → Q (.tuple #[.int .u64 (getk ((xs.drop j).take k) : Nat), .int .i64 0]) h') :
    SpecH PP F_little_get [.slice a n c, .int .i64 at1, .int .i64 (k : Nat)] h Q := by
  obtain ⟨μ, sm, s0, HE⟩ := H.em
  refine SpecH.keepD (little_get.door ?_)
  have bad : (at1 < 0 ∨ at1 > (n : Int) - k) → little_get.J1 a n c at1 k 0 0 true (fun v h' => KeepD h h' → Q v h') h := by
    intro hb
    refine little_get.J1_of (br_true rfl fun h1 tk kd => k1 hb h1 (Hs.takes0 (M := []) HE sm s0 tk kd))
  refine (br_iff _ _ _).2 ⟨fun e => bad (.inl (of_decide_eq_true e)), fun e => ?_⟩
  have e := of_decide_eq_false e
  have ew : IntKind.i64.wrap ((n : Int) - (k : Int)) = (n : Int) - k := wrap_i64_z (by omega) (by omega)
  dsimp only
  rw [ew]
  by_cases hgt : at1 > (n : Int) - k
  · rw [decide_eq_true hgt]; exact bad (.inr hgt)
  rw [decide_eq_false hgt]
  obtain ⟨j, rfl⟩ : ∃ j : Nat, at1 = j := ⟨at1.toNat, by omega⟩
  have hjk : j + k ≤ n := by omega
  refine little_get.J1_of (br_false rfl ?_)
  have ew2 : IntKind.i64.wrap ((j : Int) + (k : Int)) = ((j + k : Nat) : Int) := by rw [wrap_i64_z (by omega) (by omega)]; simp
  have H1 := HE.new (t := T_uint64) (cs := #[.int .u64 0]) (xs := [.int .u64 0])
  dsimp only
  rw [ew2]
  generalize Array.size h = v8 at H1 ⊢
  generalize Array.push h (.cells #[.int .u64 0] T_uint64 (0, 0)) = h1 at H1 ⊢
  have gE : ∀ {M : List Assn}, Gv (Em μ :: M) a (nV xs) := fun {M} => g.em sm
  refine bytes_cutG E_sl_uint8 (gE (M := [])) hn hnc hn0 (Nat.le_add_right j k) hjk fun a' c' g' hn' hc' h0' => ⟨_, _, _, rfl, ?_⟩
  rw [show j + k - j = k by omega] at g' hn' hc' ⊢
  have hys : ∀ x ∈ (xs.drop j).take k, x < 256 := fun x hm => hx x (List.mem_of_mem_drop (List.mem_of_mem_take hm))
  have k2 := k2 j rfl hjk
  generalize hyy : (xs.drop j).take k = ys at *
  have hyl : ys.length = k := by rw [← hyy, List.length_take, List.length_drop]; omega
  rw [nV_nb hys] at g'
  refine slices_Backward_byte_byte.door ?_
  have H2 := H1.new (t := T_sl_uint8) (cs := #[.slice a' k c']) (xs := [.slice a' k c'])
  dsimp only
  generalize Array.size h1 = t1 at H2 ⊢
  generalize Array.push h1 _ = h2 at H2 ⊢
  refine ⟨_, rfl, F_slices_Backward_byte_byte_1, #[], #[.pointer (some ⟨t1, 0, none⟩)], rfl, by kernel_rfl, fun fn tmps hf => ?_⟩
  generalize hL : (Loop.mk .ready none fn tmps #[28, 29] (little_get.cd 244) (little_get.cd 245) h2.size) = Lp
  have H3 := (H2.push (.deferred (some []))).push (.loop Lp)
  rw [Array.size_push] at H3
  generalize (Array.push (Array.push h2 (.deferred (some []))) (.loop Lp)) = h3 at H3 ⊢
  generalize Array.size h2 = df at H3 hL ⊢
  have hnb : (nb ys).length = k := by rw [nb_len, hyl]
  have e0 : (0 : Int) = ((Num.of ((nb ys).drop k)).toNat : Int) := by rw [List.drop_of_length_le (by omega)]; rfl
  -- 0 loop 1 def 2 t1 3 v8 4 Em
  have H4 : Hs h3 (GA v8 (df + 1) df Lp (nb ys) k :: pt t1 T_sl_uint8 [.slice a' k c'] :: [Em μ]) := by
    refine GA_open.2 ?_
    rw [← e0]
    exact H3.sel 5 [0, 1, 3, 2, 4]
  show SpecH PP F_slices_Backward_byte_byte_1 [_, _] _ _
  refine slices_Backward_byte_byte_1.door ⟨_, _, _, H4.m1.cell (off := 0) rfl, ?_⟩
  have e1 : IntKind.i64.wrap ((k : Int) - 1) = (k : Int) - 1 := wrap_i64_z (by omega) (by omega)
  dsimp only
  rw [e1]
  have go : ∀ {K : EP}, (∀ h', Hs h' (GA v8 (df + 1) df Lp (nb ys) 0 :: pt t1 T_sl_uint8 [.slice a' k c'] :: [Em μ]) → K (.exit 0) slices_Backward_byte_byte_1.X0 h') →
      ∀ (q : Nat) {h : Heap}, q ≤ k → Hs h (GA v8 (df + 1) df Lp (nb ys) q :: pt t1 T_sl_uint8 [.slice a' k c'] :: [Em μ]) → slices_Backward_byte_byte_1.L1 (.func (.yield (df + 1)) #[] #[]) ⟨t1, 0, none⟩ ((q : Int) - 1) K h := by
    intro K kk q
    induction q with
    | zero =>
      intro h hq H
      exact slices_Backward_byte_byte_1.L1_of (br_false (by simp) (kk h H))
    | succ q ih =>
      intro h hq H
      have hql : q < (nb ys).length := by omega
      have e : ((q + 1 : Nat) : Int) - 1 = (q : Int) := by omega
      rw [e]
      refine slices_Backward_byte_byte_1.L1_of (br_true (by simp) ⟨_, _, _, H.m1.cell (off := 0) rfl, ?_⟩)
      refine rd_u8 E_sl_uint8 (g' _ (H.sel 3 [2])) (by omega) (by omega) (by simpa using hql) ?_
      have H0 := GA_open.1 H
      refine little_get.R1_yield (t6 := 0) (t7 := 0) (v8 := ⟨v8, 0, none⟩) H0.get (by rw [← hL]) (by rw [← hL]) (by rw [← hL]) (by rw [← hL]; exact hf) (little_get.R1_of ?_)
      refine ⟨Lp, H0.get, by rw [← hL], ?_⟩
      have H5 := H0.set (.loop { Lp with state := .busy })
      dsimp only
      generalize h.setIfInBounds (df + 1) (.loop { Lp with state := .busy }) = h5 at H5 ⊢
      refine ⟨_, H5.m2.cell (off := 0) rfl, ?_⟩
      simp only [shl64, wrap64b, or64, Int.reduceToNat]
      refine (H5.m2).sto (off := 0) (by simp) fun h6 H6 => ?_
      refine ⟨{ Lp with state := .busy }, H6.m1.get, ?_⟩
      have eL : endL { Lp with state := .busy } none = .loop Lp := by rw [← hL]; rfl
      rw [eL]
      have H7 := H6.m1.set (.loop Lp)
      refine ⟨true, rfl, br_false rfl ?_⟩
      have e3 : IntKind.i64.wrap ((q : Int) - 1) = (q : Int) - 1 := wrap_i64_z (by omega) (by omega)
      rw [e3]
      refine ih (by omega) (GA_open.2 ?_)
      have en : Num.of ((nb ys).drop q) = Num.of ((nb ys).drop (q + 1)) <<< 8 ||| ((nb ys)[q]).setWidth 64 := by rw [← List.getElem_cons_drop hql]; rfl
      rw [en]
      exact H7.sel 3 [0, 2, 1]
  refine go (fun h5 H5 => ?_) k (Nat.le_refl _) H4
  refine slices_Backward_byte_byte_1.L1_X0 ?_
  have H6 := GA_open.1 H5
  refine ⟨Lp, H6.get, by rw [← hL]; simp, H6.m1.get, ?_⟩
  have H7 := H6.set (.loop { Lp with state := .exhausted })
  generalize h5.setIfInBounds (df + 1) (.loop { Lp with state := .exhausted }) = h7 at H7 ⊢
  rw [show Lp.pending = none by rw [← hL]]
  show little_get.K2 _ .normal _ _
  refine little_get.R1_outn0 ⟨_, H7.m2.cell (off := 0) rfl, fun h8 tk kd => ?_⟩
  rw [List.drop_zero]
  exact k2 h8 (Hs.takes0 (M := []) (H7.sel 5 [4]) sm s0 tk kd)
theorem Get32_hs {at1 : Int} (hx : ∀ x ∈ xs, x < 256) (g : Gv L a (nV xs)) (hn : xs.length = n) (hnc : n ≤ c) (hmax : n < 2 ^ 40) (hn0 : a = none → c = 0) (h63 : -9223372036854775808 ≤ at1) (H : Hs h L)
    (k1 : (at1 < 0 ∨ at1 > (n : Int) - 4) → ∀ h', Hs h' L → Q (.tuple #[.int .u32 0, .int .i64 20]) h')
    (k2 : ∀ j : Nat, at1 = j → j + 4 ≤ n → ∀ h', Hs h' L → Q (.tuple #[.int .u32 (getk ((xs.drop j).take 4) : Nat), .int .i64 0]) h') :
    SpecH PP F_little_Get32 [.slice a n c, .int .i64 at1] h Q := by
  refine little_Get32.door ?_
  refine get_hs (k := 4) hx g hn hnc hmax hn0 (by decide) h63 H (fun e h' H' => ⟨_, _, rfl, k1 e h' H'⟩) (fun j e1 e2 h' H' => ⟨_, _, rfl, ?_⟩)
  have e3 : IntKind.u32.wrap ((getk ((xs.drop j).take 4) : Nat) : Int) = ((getk ((xs.drop j).take 4) : Nat) : Int) := by
    have := Num.of4 (nb ((xs.drop j).take 4)) (by rw [nb_len, List.length_take]; omega)
    unfold getk
    rw [wrap32b]
    rw [← this, BitVec.toNat_setWidth, BitVec.toNat_setWidth, BitVec.toNat_setWidth]
    omega
  dsimp only
  rw [e3]
  exact k2 j e1 e2 h' H'
theorem Get64_hs {at1 : Int} (hx : ∀ x ∈ xs, x < 256) (g : Gv L a (nV xs)) (hn : xs.length = n) (hnc : n ≤ c) (hmax : n < 2 ^ 40) (hn0 : a = none → c = 0) (h63 : -9223372036854775808 ≤ at1) (H : Hs h L)
    (k1 : (at1 < 0 ∨ at1 > (n : Int) - 8) → ∀ h', Hs h' L → Q (.tuple #[.int .u64 0, .int .i64 20]) h')
    (k2 : ∀ j : Nat, at1 = j → j + 8 ≤ n → ∀ h', Hs h' L → Q (.tuple #[.int .u64 (getk ((xs.drop j).take 8) : Nat), .int .i64 0]) h') :
    SpecH PP F_little_Get64 [.slice a n c, .int .i64 at1] h Q := by
  refine little_Get64.door ?_
  exact get_hs (k := 8) hx g hn hnc hmax hn0 (by decide) h63 H (fun e h' H' => ⟨_, _, rfl, k1 e h' H'⟩) (fun j e1 e2 h' H' => ⟨_, _, rfl, k2 j e1 e2 h' H'⟩)
end Go.Proofs.YtjihchpobpgpeaaGreatDoor

set_option maxRecDepth 20000
set_option linter.unusedVariables false
set_option linter.unusedSimpArgs false
namespace Go.Proofs.YtjihchpobpgpeaaGreatDoor
open Go Go.HW
variable {h : Heap} {L : List Assn} {Q : Value → Heap → Prop} {q p : Nat} {d : DS} {l : LS}
def sgV (s : Seg) : List Value := [.string s.name, .int .i64 (s.first : Nat), .int .i64 (s.next : Nat), .int .i64 (s.size : Nat), .bool s.dirty]
def sgB (x : Nat × Seg) : Assn := pt x.1 T_wal_segment (sgV x.2)
def lgV (p : Nat) (l : LS) (a : OA) (c : Nat) : List Value := [ptrV p, .slice a l.segs.length c, .int .i64 (l.synced : Nat), .bool l.names, .int .i64 (l.file : Nat)]
/-- A log in memory, with its disk. -/
def logA (q p : Nat) (d : DS) (l : LS) : Assn := fun m => ∃ (sg : List (Nat × Seg)) (a : OA) (c : Nat), sg.map (·.2) = l.segs ∧
  Sp [pt q T_wal_Log (lgV p l a c), own a l.segs.length c T_p_wal_segment 1 (sg.map fun x => ptrV x.1), Sp (sg.map sgB), diskA p d] m
theorem logA_open : Hs h (logA q p d l :: L) ↔ ∃ (sg : List (Nat × Seg)) (a : OA) (c : Nat), sg.map (·.2) = l.segs ∧
    Hs h (pt q T_wal_Log (lgV p l a c) :: own a l.segs.length c T_p_wal_segment 1 (sg.map fun x => ptrV x.1) :: Sp (sg.map sgB) :: diskA p d :: L) := by
  unfold logA
  simp only [Hs.ex, Hs.and]
  constructor
  · rintro ⟨sg, a, c, e, H⟩; exact ⟨sg, a, c, e, Hs.app.1 H⟩
  · rintro ⟨sg, a, c, e, H⟩; exact ⟨sg, a, c, e, Hs.app.2 H⟩
/-- What is always so of a log. -/
structure LI (l : LS) : Prop where
  seg : ∀ s ∈ l.segs, 1 ≤ s.next ∧ s.first < 2 ^ 40 ∧ s.next < 2 ^ 40 ∧ s.size < 2 ^ 40
  len : l.segs.length < 2 ^ 20
  file : l.file < 2 ^ 20
theorem LI.last (hl : LI l) : l.last < 2 ^ 40 := by
  unfold LS.last
  cases e : l.segs.getLast? with
  | none => simp
  | some s =>
    have := (hl.seg s (List.mem_of_getLast? e)).2.2.1
    show s.next - 1 < 2 ^ 40
    omega
/-- A segment of a log is looked at: its block, and what it holds. -/
theorem seg_at {sg : List (Nat × Seg)} {i : Nat} (hi : i < sg.length) (H : Hs h (Sp (sg.map sgB) :: L)) : Hs h (pt sg[i].1 T_wal_segment (sgV sg[i].2) :: Sp ((sg.map sgB).eraseIdx i) :: L) :=
  H.focus (A := sgB sg[i]) (by rw [List.getElem?_map, List.getElem?_eq_getElem hi]; rfl)
theorem sg_len {sg : List (Nat × Seg)} (e : sg.map (·.2) = l.segs) : sg.length = l.segs.length := by rw [← e, List.length_map]
theorem sg_idx {a : OA} {c i : Nat} {sg : List (Nat × Seg)} {R : Addr → Heap → Prop} (r : Rd h a (sg.map fun x => ptrV x.1)) (n : Nat) (hi : i < n) (hs : i < sg.length) {k : Int} (hk : k = (i : Nat)) (K : ∀ t, cellH h t = some (ptrV (sg[i]'hs).1) → R t h) :
    hwp PP (Instr.indexAt T_sl_p_wal_segment (.slice a n c) (.int .i64 k)) (fun u h1 => ∃ t, u = .pointer (some t) ∧ R t h1) h := by
  subst hk
  exact idx E_sl_p_wal_segment r (by omega) (by omega) (by rw [Int.toNat_natCast, List.getElem?_map, List.getElem?_eq_getElem hs]; rfl) K
theorem last_eq {s : Seg} (e : l.segs.getLast? = some s) : l.last = s.next - 1 := by unfold LS.last; rw [e]
theorem Last_open {sg : List (Nat × Seg)} {a : OA} {c : Nat} (hl : LI l) (e : sg.map (·.2) = l.segs) (H : Hs h (pt q T_wal_Log (lgV p l a c) :: own a l.segs.length c T_p_wal_segment 1 (sg.map fun x => ptrV x.1) :: Sp (sg.map sgB) :: L)) (k : Q (.int .i64 (l.last : Nat)) h) :
    SpecH PP F_wal_Log_Last [.pointer (some ⟨q, 0, none⟩)] h Q := by
  refine wal_Log_Last.door (br_false rfl ⟨_, _, _, H.cell (off := 1) rfl, ?_⟩)
  have hsl := sg_len e
  by_cases h0 : l.segs.length = 0
  · have : l.last = 0 := by unfold LS.last; rw [List.length_eq_zero_iff.1 h0]; rfl
    rw [this] at k
    dsimp only
    rw [show (((l.segs.length : Nat) : Int) == 0) = true by simp [h0]]
    exact wal_Log_Last.J1_of (br_true rfl k)
  · dsimp only
    rw [show (((l.segs.length : Nat) : Int) == 0) = false by simpa using h0]
    refine wal_Log_Last.J1_of (br_false rfl ⟨_, _, _, H.cell (off := 1) rfl, _, _, _, H.cell (off := 1) rfl, ?_⟩)
    have hll := hl.len
    have ew : IntKind.i64.wrap (((l.segs.length : Nat) : Int) - 1) = ((l.segs.length - 1 : Nat) : Int) := by rw [wrap_i64_z (by omega) (by omega)]; omega
    obtain ⟨i, hi⟩ : ∃ i, i = l.segs.length - 1 := ⟨_, rfl⟩
    have his : i < sg.length := by omega
    have hil : i < l.segs.length := by omega
    refine sg_idx (i := i) H.m1.rd l.segs.length hil his (by rw [ew, hi]) fun t ht => ⟨_, ht, ?_⟩
    have H2 := seg_at his H.m2
    have hget : l.segs[i]? = some sg[i].2 := by rw [← e, List.getElem?_map, List.getElem?_eq_getElem his]; rfl
    have hm : sg[i].2 ∈ l.segs := List.mem_of_getElem? hget
    have hgl : l.segs.getLast? = some sg[i].2 := by rw [List.getLast?_eq_getElem?, ← hi]; exact hget
    have hb := hl.seg _ hm
    refine ⟨_, H2.cell (off := 2) rfl, ?_⟩
    have ew2 : IntKind.i64.wrap (((sg[i].2.next : Nat) : Int) - 1) = ((l.last : Nat) : Int) := by
      rw [last_eq hgl, wrap_i64_z (by omega) (by omega)]; omega
    dsimp only
    rw [ew2]
    exact k
theorem Last_hs (hl : LI l) (H : Hs h (logA q p d l :: L)) (k : Q (.int .i64 (l.last : Nat)) h) : SpecH PP F_wal_Log_Last [.pointer (some ⟨q, 0, none⟩)] h Q := by
  obtain ⟨sg, a, c, e, H1⟩ := logA_open.1 H
  exact Last_open hl e H1 k
theorem Synced_hs (H : Hs h (logA q p d l :: L)) (k : Q (.int .i64 (l.synced : Nat)) h) : SpecH PP F_wal_Log_Synced [.pointer (some ⟨q, 0, none⟩)] h Q := by
  obtain ⟨sg, a, c, e, H1⟩ := logA_open.1 H
  exact wal_Log_Synced.door (br_false rfl ⟨_, H1.cell (off := 2) rfl, k⟩)
end Go.Proofs.YtjihchpobpgpeaaGreatDoor

set_option maxRecDepth 20000
set_option linter.unusedVariables false
set_option linter.unusedSimpArgs false
namespace Go.Proofs.YtjihchpobpgpeaaGreatDoor
open Go Go.HW
variable {h : Heap} {L : List Assn} {Q : Value → Heap → Prop} {a : OA} {n c : Nat} {xs : List Nat}
theorem gnil : Gv L none (nV []) := fun h _ => Rd.nil h _
theorem own_n0 {M : List Assn} {h : Heap} {a : OA} {m c : Nat} {e : TypeId} {sz : Nat} {xs : List Value} (H : Hs h (own a m c e sz xs :: M)) : a = none → m = 0 := fun q => by
  subst q; have := H.own_none; have := H.own_le; omega
theorem sealed_hs (t : TabL L) (hx : ∀ x ∈ xs, x < 256) (g : Gv L a (nV xs)) (hn : xs.length = n) (hmax : n < 2 ^ 40) (hn0 : a = none → n = 0) (H : Hs h L)
    (kk : ∀ h' a' c', Hs h' (own a' (sealB xs).length c' T_uint8 1 (nV (sealB xs)) :: L) → Q (.slice a' (sealB xs).length c') h') : SpecH PP F_wal_sealed [.slice a n c] h Q := by
  refine wal_sealed.door (Sum_hs t hx (g h H) hn (by omega) H ⟨_, rfl, ?_⟩)
  refine Put32_hs (crc_lt xs) g hn hmax hn0 H fun h' a' c' H' => ⟨_, _, _, rfl, ?_⟩
  have el : n + 4 = (sealB xs).length := by unfold sealB; rw [List.length_append, lek_len, hn]
  rw [el] at H' ⊢
  exact kk h' a' c' H'
theorem mem_app {P : Nat → Prop} {l m : List Nat} (h1 : ∀ x ∈ l, P x) (h2 : ∀ x ∈ m, P x) : ∀ x ∈ l ++ m, P x := fun x hx => (List.mem_append.1 hx).elim (h1 x) (h2 x)
theorem seal_lt (hx : ∀ x ∈ xs, x < 256) : ∀ x ∈ sealB xs, x < 256 := mem_app hx fun x hm => lek_lt hm
theorem head_lt (f : Nat) : ∀ x ∈ headB f, x < 256 := seal_lt (mem_app (fun x hm => lek_lt hm) fun x hm => lek_lt hm)
theorem laid_lt {s : Nat} (hx : ∀ x ∈ xs, x < 256) : ∀ x ∈ laidB s xs, x < 256 := seal_lt (mem_app (mem_app (fun x hm => lek_lt hm) fun x hm => lek_lt hm) hx)
theorem head_hs {f : Nat} (t : TabL L) (hf : f < 2 ^ 62) (H : Hs h L) (kk : ∀ h' a' c', Hs h' (own a' 16 c' T_uint8 1 (nV (headB f)) :: L) → Q (.slice a' 16 c') h') : SpecH PP F_wal_head [.int .i64 (f : Nat)] h Q := by
  refine wal_head.door ?_
  refine Put32_hs (xs := []) (v := mark) (by decide) gnil rfl (by decide) (fun _ => rfl) H fun h1 a1 c1 H1 => ⟨_, _, _, rfl, ?_⟩
  have ew : IntKind.u64.wrap ((f : Nat) : Int) = ((f : Nat) : Int) := wrap_u64_id (by omega)
  dsimp only
  rw [ew]
  refine Put64_hs (xs := lek 4 mark) (by omega) Gv.own (by rw [lek_len]) (by decide) (own_n0 H1) H1 fun h2 a2 c2 H2 => ⟨_, _, _, rfl, ?_⟩
  refine sealed_hs (xs := lek 4 mark ++ lek 8 f) t.cons.cons (mem_app (fun x hm => lek_lt hm) fun x hm => lek_lt hm) Gv.own (by simp [lek_len]) (by decide) (own_n0 H2) H2 fun h3 a3 c3 H3 => ⟨_, _, _, rfl, ?_⟩
  have el : (sealB (lek 4 mark ++ lek 8 f)).length = 16 := head_len f
  rw [el] at H3 ⊢
  exact kk h3 a3 c3 (H3.sel 3 [0])
theorem sb_lt (s : ByteArray) : ∀ x ∈ sb s, x < 256 := by
  intro x hx
  unfold sb at hx
  obtain ⟨b, _, rfl⟩ := List.mem_map.1 hx
  exact b.toNat_lt
theorem laid_hs {s : Nat} {dt : ByteArray} (t : TabL L) (hs : s < 2 ^ 62) (hd : dt.size ≤ 65536) (H : Hs h L) (kk : ∀ h' a' c', Hs h' (own a' (laidB s (sb dt)).length c' T_uint8 1 (nV (laidB s (sb dt))) :: L) → Q (.slice a' (laidB s (sb dt)).length c') h') :
    SpecH PP F_wal_laid [.agg #[.int .i64 (s : Nat), .string dt]] h Q := by
  refine wal_laid.door ?_
  have H0 := H.new (t := T_api_Record) (cs := #[.int .i64 (s : Nat), .string dt]) (xs := [.int .i64 (s : Nat), .string dt])
  dsimp only
  generalize Array.size h = b at H0 ⊢
  generalize Array.push h _ = h0 at H0 ⊢
  have t0 : TabL (pt b T_api_Record [.int .i64 (s : Nat), .string dt] :: L) := t.cons
  have ew1 : IntKind.u32.wrap ((dt.size : Nat) : Int) = ((dt.size : Nat) : Int) := by rw [wrap_u32_id]; omega
  have ew2 : IntKind.u64.wrap ((s : Nat) : Int) = ((s : Nat) : Int) := wrap_u64_id (by omega)
  refine ⟨_, H0.cell (off := 1) rfl, ?_⟩
  rw [ew1]
  have fin : ∀ {h : Heap} {a : OA} {c : Nat} {M : List Assn}, TabL (M ++ pt b T_api_Record [.int .i64 (s : Nat), .string dt] :: L) →
      Hs h (own a 12 c T_uint8 1 (nV (lek 4 dt.size ++ lek 8 s)) :: pt b T_api_Record [.int .i64 (s : Nat), .string dt] :: L) → wal_laid.J1 ⟨b, 0, none⟩ a 12 c Q h := by
    intro h a c M _ H1
    refine wal_laid.J1_of ⟨_, H1.m1.cell (off := 1) rfl, ?_⟩
    refine H1.app_str E_sl_uint8 U_string (fun h2 a2 c2 H2 => ⟨_, _, _, rfl, ?_⟩) (by omega) (by omega)
    have e2 : nV (lek 4 dt.size ++ lek 8 s) ++ dt.data.toList.map (fun b => .int .u8 b.toNat) = nV (lek 4 dt.size ++ lek 8 s ++ sb dt) := by
      rw [strV_nV, ← nV_app]
    rw [e2] at H2
    refine sealed_hs (xs := lek 4 dt.size ++ lek 8 s ++ sb dt) t0.cons (mem_app (mem_app (fun x hm => lek_lt hm) fun x hm => lek_lt hm) (sb_lt dt)) Gv.own (by simp [lek_len, sb_len]; omega) (by omega) (own_n0 H2) H2 fun h3 a3 c3 H3 => ⟨_, _, _, rfl, ?_⟩
    have el : sealB (lek 4 dt.size ++ lek 8 s ++ sb dt) = laidB s (sb dt) := by unfold laidB; rw [sb_len]
    rw [el] at H3 ⊢
    exact kk h3 a3 c3 (H3.sel 3 [0])
  refine ⟨?_, ⟨_, H0.cell (off := 0) rfl, ?_⟩, trivial⟩
  · refine Put32_hs (xs := []) (v := dt.size) (by omega) gnil rfl (by decide) (fun _ => rfl) H0 fun h1 a1 c1 H1 => ⟨_, _, _, rfl, _, H1.m1.cell (off := 0) rfl, ?_⟩
    rw [ew2]
    refine Put64_hs (xs := lek 4 dt.size) (by omega) Gv.own (by rw [lek_len]) (by decide) (own_n0 H1) H1 fun h2 a2 c2 H2 => ⟨_, _, _, rfl, fin (M := []) t0 (H2.sel 3 [0, 2])⟩
  · refine Put32_hs (xs := []) (v := dt.size) (by omega) gnil rfl (by decide) (fun _ => rfl) H0 fun h1 a1 c1 H1 => ⟨_, _, _, rfl, ?_⟩
    rw [ew2]
    refine Put64_hs (xs := lek 4 dt.size) (by omega) Gv.own (by rw [lek_len]) (by decide) (own_n0 H1) H1 fun h2 a2 c2 H2 => ⟨_, _, _, rfl, fin (M := []) t0 (H2.sel 3 [0, 2])⟩
end Go.Proofs.YtjihchpobpgpeaaGreatDoor

set_option linter.unusedVariables false
set_option linter.unusedSimpArgs false
namespace Go.HW.Dec
open Go Go.HW
/-- A number's digits. -/
def decN (n : Nat) : List Nat := (Lib.decDigits n).map UInt8.toNat
theorem u8n {n : Nat} (h : n < 256) : (UInt8.ofNat n).toNat = n := by simp [UInt8.toNat_ofNat']; omega
theorem decN_lt {n : Nat} (h : n < 10) : decN n = [48 + n] := by
  unfold decN; rw [Lib.decDigits, dif_pos h]; simp only [List.map_cons, List.map_nil]; rw [u8n (by omega)]
theorem decN_ge {n : Nat} (h : 10 ≤ n) : decN n = decN (n / 10) ++ [48 + n % 10] := by
  unfold decN; rw [Lib.decDigits, dif_neg (by omega)]; simp only [List.map_append, List.map_cons, List.map_nil]; rw [u8n (by omega)]
theorem sb_mk (l : List UInt8) : sb ⟨l.toArray⟩ = l.map UInt8.toNat := by simp [sb]
theorem sb_itoa (n : Nat) : sb ⟨(Lib.itoa (n : Int)).toArray⟩ = decN n := by
  rw [sb_mk, Lib.itoa, if_neg (by omega)]; rfl
theorem itoa_dec (n : Nat) : Lib.itoa (n : Int) = Lib.decDigits n := by rw [Lib.itoa, if_neg (by omega)]; rfl
theorem decN_dig : ∀ (n : Nat), ∀ x ∈ decN n, 48 ≤ x ∧ x ≤ 57 := by
  intro n
  induction n using Nat.strongRecOn with
  | _ n ih =>
    by_cases h : n < 10
    · rw [decN_lt h]; intro x hx; simp at hx; omega
    · rw [decN_ge (by omega)]
      intro x hx
      rcases List.mem_append.1 hx with hx | hx
      · exact ih (n / 10) (by omega) x hx
      · simp at hx; omega
theorem decN_len : ∀ (k n : Nat), n < 10 ^ (k + 1) → (decN n).length ≤ k + 1 := by
  intro k
  induction k with
  | zero => intro n h; rw [decN_lt (by omega)]; simp
  | succ k ih =>
    intro n h
    by_cases hn : n < 10
    · rw [decN_lt hn]; simp
    · rw [decN_ge (by omega), List.length_append]
      have := ih (n / 10) (by rw [Nat.pow_succ] at h; omega)
      simp; omega
theorem decN_pos (n : Nat) : 1 ≤ (decN n).length := by
  by_cases h : n < 10
  · rw [decN_lt h]; simp
  · rw [decN_ge (by omega)]; simp
theorem decN_len_inv : ∀ (k n : Nat), (decN n).length ≤ k → n < 10 ^ k := by
  intro k
  induction k with
  | zero => intro n h; have := decN_pos n; omega
  | succ k ih =>
    intro n h
    by_cases hn : n < 10
    · have : 10 ^ 1 ≤ 10 ^ (k + 1) := Nat.pow_le_pow_right (by omega) (by omega)
      omega
    · rw [decN_ge (by omega), List.length_append] at h
      have := ih (n / 10) (by simp at h; omega)
      rw [Nat.pow_succ]; omega
theorem decN_head : ∀ (n : Nat), n ≠ 0 → (decN n).head? ≠ some 48 := by
  intro n
  induction n using Nat.strongRecOn with
  | _ n ih =>
    intro h0
    by_cases h : n < 10
    · rw [decN_lt h]; simp; omega
    · rw [decN_ge (by omega)]
      have hp := decN_pos (n / 10)
      have : (decN (n / 10) ++ [48 + n % 10]).head? = (decN (n / 10)).head? := by
        cases e : decN (n / 10) with
        | nil => rw [e] at hp; simp at hp
        | cons a l => rfl
      rw [this]
      exact ih (n / 10) (by omega) (by omega)
/-- What digits say. -/
def valD (a : Nat) (l : List Nat) : Nat := l.foldl (fun a x => 10 * a + (x - 48)) a
theorem valD_app (a : Nat) (l m : List Nat) : valD a (l ++ m) = valD (valD a l) m := by simp [valD]
theorem valD_dec (n : Nat) : valD 0 (decN n) = n := by
  induction n using Nat.strongRecOn with
  | _ n ih =>
    by_cases h : n < 10
    · rw [decN_lt h]; simp [valD]
    · rw [decN_ge (by omega), valD_app, ih (n / 10) (by omega)]; simp [valD]; omega
theorem valD_ge (l : List Nat) : ∀ a, a ≤ valD a l := by
  induction l with
  | nil => exact fun a => Nat.le_refl _
  | cons x l ih => exact fun a => Nat.le_trans (by omega) (ih (10 * a + (x - 48)))
theorem canon : ∀ (l : List Nat), l ≠ [] → (∀ x ∈ l, 48 ≤ x ∧ x ≤ 57) → (1 < l.length → l.head? ≠ some 48) → l = decN (valD 0 l) := by
  intro l
  induction hn : l.length using Nat.strongRecOn generalizing l with
  | _ n ih =>
    intro h0 hd hh
    obtain ⟨r, d, rfl⟩ : ∃ r d, l = r ++ [d] := ⟨l.dropLast, l.getLast h0, (List.dropLast_concat_getLast h0).symm⟩
    have hd1 := hd d (by simp)
    by_cases hr : r = []
    · subst hr
      have e : valD 0 [d] = d - 48 := by simp [valD]
      show [d] = decN (valD 0 [d])
      rw [e, decN_lt (by omega)]
      congr 1; omega
    · have hl : 1 < (r ++ [d]).length := by
        have := List.length_pos_iff.2 hr
        simp; omega
      have hhr : r.head? ≠ some 48 := by
        have := hh (by omega)
        cases r with
        | nil => exact absurd rfl hr
        | cons a r => simpa using this
      have ihr := ih r.length (by rw [← hn]; simp) r rfl hr (fun x hx => hd x (by simp [hx])) (fun _ => hhr)
      have hv : valD 0 r ≠ 0 := by
        intro e
        rw [e, decN_lt (by omega)] at ihr
        rw [ihr] at hhr; simp at hhr
      have e : valD 0 (r ++ [d]) = 10 * valD 0 r + (d - 48) := by rw [valD_app]; simp [valD]
      rw [e, decN_ge (by omega), show (10 * valD 0 r + (d - 48)) / 10 = valD 0 r by omega, ← ihr]
      congr 2; omega
def isDg (x : Nat) : Bool := decide (48 ≤ x) && decide (x ≤ 57)
/-- The document's number of a text. -/
def valL (l : List Nat) : Int :=
  if l.length < 1 ∨ 10 < l.length ∨ (1 < l.length ∧ l.head? = some 48) then -1
  else if l.all isDg then (valD 0 l : Int) else -1
theorem valL_dec {n : Nat} (h : n < 10 ^ 10) : valL (decN n) = n := by
  have h1 := decN_pos n
  have h2 := decN_len 9 n h
  unfold valL
  rw [if_neg, if_pos, valD_dec]
  · rw [List.all_eq_true]; intro x hx; have := decN_dig n x hx; simp [isDg, this]
  · rintro (a | a | ⟨a, b⟩)
    · omega
    · omega
    · by_cases h0 : n = 0
      · subst h0; rw [decN_lt (by omega)] at a; simp at a
      · exact decN_head n h0 b
theorem valL_inv {l : List Nat} (h : 0 ≤ valL l) : ∃ n : Nat, valL l = n ∧ n < 10 ^ 10 ∧ l = decN n := by
  unfold valL at h ⊢
  split at h
  · omega
  · rename_i hc
    split at h
    · rename_i ha
      rw [if_neg hc, if_pos ha]
      have hc' : ¬ l.length < 1 ∧ ¬ 10 < l.length ∧ ¬ (1 < l.length ∧ l.head? = some 48) := ⟨fun x => hc (.inl x), fun x => hc (.inr (.inl x)), fun x => hc (.inr (.inr x))⟩
      have e := canon l (by rintro rfl; exact hc'.1 (by simp)) (fun x hx => by have := List.all_eq_true.1 ha x hx; simpa [isDg] using this) (fun a b => hc'.2.2 ⟨a, b⟩)
      exact ⟨_, rfl, decN_len_inv 10 _ (by rw [← e]; omega), e⟩
    · omega
theorem parse_ok : ∀ (l : List UInt8) (a : Nat), (∀ x ∈ l, 48 ≤ x.toNat ∧ x.toNat ≤ 57) → valD a (l.map UInt8.toNat) < 18446744073709551616 → Lib.parseUint10 a l = .ok (valD a (l.map UInt8.toNat)) := by
  intro l
  induction l with
  | nil => intro a _ _; rfl
  | cons c r ih =>
    intro a hd hv
    have hc := hd c (by simp)
    have hm := valD_ge (r.map UInt8.toNat) (10 * a + (c.toNat - 48))
    have hv' : valD (10 * a + (c.toNat - 48)) (r.map UInt8.toNat) < 18446744073709551616 := hv
    rw [Lib.parseUint10, if_pos hc, if_neg (by omega), if_neg (by omega), Nat.mul_comm a 10]
    exact ih _ (fun x hx => hd x (by simp [hx])) hv
theorem atoi_dec {n : Nat} (h : n < 10 ^ 10) : Lib.atoiAll (Lib.decDigits n) = .ok (n : Int) := by
  have hd : ∀ x ∈ Lib.decDigits n, 48 ≤ x.toNat ∧ x.toNat ≤ 57 := fun x hx => decN_dig n x.toNat (List.mem_map.2 ⟨x, hx, rfl⟩)
  have hp := decN_pos n
  have hv := valD_dec n
  unfold decN at hp hv
  cases e : Lib.decDigits n with
  | nil => rw [e] at hp; simp at hp
  | cons c r =>
    rw [e] at hd hv
    have hc := hd c (by simp)
    rw [Lib.atoiAll_plain c r (by omega) (by omega), Lib.parseMag, if_neg (by simp), parse_ok _ 0 hd (by rw [hv]; omega), hv]
    show (if _ then _ else _) = _
    rw [if_neg (by omega)]
end Go.HW.Dec

set_option maxRecDepth 20000
set_option linter.unusedVariables false
set_option linter.unusedSimpArgs false
namespace Go.Proofs.YtjihchpobpgpeaaGreatDoor
open Go Go.HW
variable {h : Heap} {L : List Assn} {Q : Value → Heap → Prop} {a : OA} {n c : Nat} {xs : List Nat}
theorem seal_len (x : List Nat) : (sealB x).length = x.length + 4 := by unfold sealB; rw [List.length_append, lek_len]
theorem whole_hs (t : TabL L) (hx : ∀ x ∈ xs, x < 256) (g : Gv L a (nV (sealB xs))) (hn : (sealB xs).length = n) (hnc : n ≤ c) (hmax : n < 2 ^ 40) (hn0 : a = none → c = 0) (H : Hs h L)
    (kk : ∀ h', Hs h' L → Q (.bool true) h') : SpecH PP F_wal_whole [.slice a n c] h Q := by
  have hl := seal_len xs
  refine wal_whole.door ?_
  have ew : IntKind.i64.wrap ((n : Int) - 4) = ((xs.length : Nat) : Int) := by rw [wrap_i64_z (by omega) (by omega)]; omega
  dsimp only
  rw [ew]
  refine Get32_hs (seal_lt hx) g hn hnc hmax hn0 (by omega) H (fun q => absurd q (by omega)) fun j ej hj h1 H1 => ?_
  have ej : j = xs.length := by omega
  subst ej
  have e4 : ((sealB xs).drop xs.length).take 4 = lek 4 (crc xs) := by
    unfold sealB
    rw [List.drop_left, List.take_of_length_le (by rw [lek_len]; exact Nat.le_refl _)]
  rw [e4, get_le4 (crc_lt _)]
  refine ⟨_, _, rfl, br_true rfl ?_⟩
  refine cutG (i := 0) (j := xs.length) (lo := none) (hi := some (.int .i64 (xs.length : Nat))) E_sl_uint8 g hn hnc hn0 (by omega) (by omega) rfl rfl fun a2 c2 g2 h20 h2c h2n => ⟨_, _, _, rfl, ?_⟩
  have e5 : ((sealB xs).drop 0).take (xs.length - 0) = xs := by unfold sealB; rw [List.drop_zero, Nat.sub_zero, List.take_left]
  rw [e5] at g2
  refine Sum_hs t hx (g2 _ H1) (by omega) (by omega) H1 ⟨_, rfl, ?_⟩
  rw [beq_self_eq_true]
  exact kk _ H1
theorem begins_hs {f : Nat} (t : TabL L) (hf : f < 2 ^ 62) (hx : ∀ x ∈ xs, x < 256) (g : Gv L a (nV (headB f ++ xs))) (hn : (headB f ++ xs).length = n) (hnc : n ≤ c) (hmax : n < 2 ^ 40) (hn0 : a = none → c = 0) (H : Hs h L)
    (kk : ∀ h', Hs h' L → Q (.tuple #[.int .i64 (f : Nat), .bool true]) h') : SpecH PP F_wal_begins [.slice a n c] h Q := by
  have hl := head_len f
  have hl2 : n = 16 + xs.length := by rw [← hn, List.length_append, hl]
  have hb : ∀ x ∈ headB f ++ xs, x < 256 := mem_app (head_lt f) hx
  refine wal_begins.door ?_
  dsimp only
  rw [show decide ((n : Int) < 16) = false by simp; omega]
  refine br_false rfl ?_
  refine cutG (i := 0) (j := 16) (lo := none) (hi := some (.int .i64 16)) E_sl_uint8 g hn hnc hn0 (by omega) (by omega) rfl rfl fun a2 c2 g2 h20 h2c h2n => ⟨_, _, _, rfl, ?_⟩
  have e5 : ((headB f ++ xs).drop 0).take (16 - 0) = sealB (lek 4 mark ++ lek 8 f) := by rw [List.drop_zero, Nat.sub_zero, ← hl, List.take_left]; rfl
  rw [e5] at g2
  refine whole_hs t (mem_app (fun x hm => lek_lt hm) fun x hm => lek_lt hm) g2 hl h2c (by decide) h2n H fun h1 H1 => ⟨_, rfl, wal_begins.J1_of (br_false rfl ?_)⟩
  refine Get32_hs (at1 := 0) hb g hn hnc hmax hn0 (by omega) H1 (fun q => absurd q (by omega)) fun j ej hj h2 H2 => ⟨_, _, rfl, ?_⟩
  have ej : j = 0 := by omega
  subst ej
  refine Get64_hs (at1 := 4) hb g hn hnc hmax hn0 (by omega) H2 (fun q => absurd q (by omega)) fun j ej hj h3 H3 => ⟨_, _, rfl, ?_⟩
  have ej : j = 4 := by omega
  subst ej
  have eh : headB f ++ xs = lek 4 mark ++ (lek 8 f ++ (lek 4 (crc (lek 4 mark ++ lek 8 f)) ++ xs)) := by unfold headB sealB; simp only [List.append_assoc]
  have e1 : ((headB f ++ xs).drop 0).take 4 = lek 4 mark := by rw [eh, List.drop_zero, List.take_left' (lek_len 4 mark)]
  have e2 : ((headB f ++ xs).drop 4).take 8 = lek 8 f := by rw [eh, List.drop_left' (lek_len 4 mark), List.take_left' (lek_len 8 f)]
  rw [e1, e2, get_le4 (by decide), get_le8 (by omega)]
  dsimp only
  rw [wrap_i64_z (by omega) (by omega)]
  exact kk _ H3
/-- Records, one behind the other: their bytes, their cells. -/
def body : Nat → List Nm → List Nat
  | _, [] => []
  | s, d :: ds => laidB s (sb d) ++ body (s + 1) ds
theorem body_cons (s : Nat) (d : Nm) (ds : List Nm) : body s (d :: ds) = laidB s (sb d) ++ body (s + 1) ds := rfl
def rcs : Nat → List Nm → List (Nat × Nm)
  | _, [] => []
  | s, d :: ds => (s, d) :: rcs (s + 1) ds
def rcV (x : Nat × Nm) : List Value := [.int .i64 (x.1 : Nat), .string x.2]
theorem rcs_len : ∀ (ds : List Nm) (s : Nat), (rcs s ds).length = ds.length
  | [], _ => rfl
  | d :: ds, s => by unfold rcs; rw [List.length_cons, rcs_len ds, List.length_cons]
theorem body_lt : ∀ (ds : List Nm) (s : Nat), ∀ x ∈ body s ds, x < 256
  | [], _ => nofun
  | d :: ds, s => mem_app (laid_lt (sb_lt d)) (body_lt ds (s + 1))
theorem body_ge : ∀ (ds : List Nm) (s : Nat), 16 * ds.length ≤ (body s ds).length
  | [], _ => Nat.le_refl _
  | d :: ds, s => by
    have := body_ge ds (s + 1)
    rw [body_cons, List.length_append, laid_len, List.length_cons]; omega
theorem body_snoc : ∀ (ds : List Nm) (s : Nat) (d : Nm), body s (ds ++ [d]) = body s ds ++ laidB (s + ds.length) (sb d)
  | [], s, d => by simp [body]
  | e :: ds, s, d => by
    show laidB s (sb e) ++ body (s + 1) (ds ++ [d]) = laidB s (sb e) ++ body (s + 1) ds ++ _
    rw [body_snoc ds, List.append_assoc, List.length_cons, show s + 1 + ds.length = s + (ds.length + 1) by omega]
theorem rec_loop (t : TabL L) : ∀ (ds : List Nm) (s : Nat) {h : Heap} {b : OA} {bn bc : Nat} {x : OA} {xn xc : Nat} (dn : List (Nat × Nm)), (∀ d ∈ ds, d.size ≤ 65536) → s + ds.length < 2 ^ 40 → bn < 2 ^ 32 → xn + ds.length < 2 ^ 32 →
    Gv L b (nV (body s ds)) → (body s ds).length = bn → bn ≤ bc → (b = none → bc = 0) → Hs h (own x xn xc T_api_Record 2 (dn.flatMap rcV) :: L) →
    (∀ h' x' c', Hs h' (own x' (xn + ds.length) c' T_api_Record 2 ((dn ++ rcs s ds).flatMap rcV) :: L) → Q (.tuple #[.slice x' (xn + ds.length) c', .bool true]) h') →
    wal_records.L1 b bn bc (s : Nat) x xn xc (wal_records.K1 Q) h
  | [], s, h, b, bn, bc, x, xn, xc, dn, hd, hs, hb, hxn, g, hn, hnc, hn0, H, kk => by
    have hn : bn = 0 := hn.symm
    subst hn
    refine wal_records.L1_of (br_false rfl (wal_records.L1_X0 ?_))
    have := kk h x xc (by rw [show dn ++ rcs s [] = dn from List.append_nil _]; exact H)
    exact this
  | d :: ds, s, h, b, bn, bc, x, xn, xc, dn, hd, hs, hb, hxn, g, hn, hnc, hn0, H, kk => by
    have hds := hd d (List.mem_cons_self ..)
    have hll := laid_len s (sb d)
    rw [sb_len] at hll
    have hn' : bn = d.size + 16 + (body (s + 1) ds).length := by rw [← hn, body_cons, List.length_append, hll]
    rw [List.length_cons] at hs kk hxn
    have eb : body s (d :: ds) = lek 4 d.size ++ (lek 8 s ++ (sb d ++ (lek 4 (crc (lek 4 (sb d).length ++ lek 8 s ++ sb d)) ++ body (s + 1) ds))) := by
      rw [body_cons]; unfold laidB sealB
      rw [sb_len]; simp only [List.append_assoc]
    have e1 : ((body s (d :: ds)).drop 0).take 4 = lek 4 d.size := by rw [eb, List.drop_zero, List.take_left' (lek_len 4 _)]
    have e2 : ((body s (d :: ds)).drop 4).take 8 = lek 8 s := by rw [eb, List.drop_left' (lek_len 4 _), List.take_left' (lek_len 8 _)]
    have e3 : ((body s (d :: ds)).drop 12).take (12 + d.size - 12) = sb d := by
      rw [eb, ← List.append_assoc, List.drop_left' (by rw [List.length_append, lek_len, lek_len]), Nat.add_sub_cancel_left, List.take_left' (sb_len d)]
    have e4 : ((body s (d :: ds)).drop 0).take (d.size + 16 - 0) = laidB s (sb d) := by
      rw [List.drop_zero, Nat.sub_zero, body_cons, List.take_left' hll]
    have e5 : (body s (d :: ds)).drop (d.size + 16) = body (s + 1) ds := by rw [body_cons, List.drop_left' hll]
    have hlt := body_lt (d :: ds) s
    generalize body s (d :: ds) = bs at *
    refine wal_records.L1_of (br_true (by simp; omega) ?_)
    refine Get32_hs (at1 := 0) hlt g.cons hn hnc (by omega) hn0 (by omega) H (fun q => absurd q (by omega)) fun j ej hj h2 H2 => ⟨_, _, rfl, ?_⟩
    have ej : j = 0 := by omega
    subst ej
    refine Get64_hs (at1 := 4) hlt g.cons hn hnc (by omega) hn0 (by omega) H2 (fun q => absurd q (by omega)) fun j ej hj h3 H3 => ⟨_, _, rfl, ?_⟩
    have ej : j = 4 := by omega
    subst ej
    rw [e1, e2, get_le4 (by omega), get_le8 (by omega)]
    have ew0 : IntKind.i64.wrap ((d.size : Nat) : Int) = ((d.size : Nat) : Int) := wrap_i64_z (by omega) (by omega)
    have ew : IntKind.i64.wrap (IntKind.i64.wrap ((d.size : Nat) : Int) + 16) = ((d.size + 16 : Nat) : Int) := by rw [ew0, wrap_i64_z (by omega) (by omega)]; omega
    have ew' : IntKind.i64.wrap (((d.size : Nat) : Int) + 16) = ((d.size + 16 : Nat) : Int) := by rw [wrap_i64_z (by omega) (by omega)]; omega
    refine br_false (by simp; omega) (br_false (by rw [ew]; simp; omega) (br_false (by rw [wrap_u64_id (by omega)]; simp) ?_))
    dsimp only
    rw [ew]
    refine cutG (i := 0) (j := d.size + 16) (lo := none) (hi := some (.int .i64 (d.size + 16 : Nat))) E_sl_uint8 g hn hnc hn0 (by omega) (by omega) rfl rfl fun a2 c2 g2 h20 h2c h2n => ⟨_, _, _, rfl, ?_⟩
    rw [e4] at g2
    refine whole_hs (xs := lek 4 (sb d).length ++ lek 8 s ++ sb d) t.cons (mem_app (mem_app (fun x hm => lek_lt hm) fun x hm => lek_lt hm) (sb_lt d)) g2.cons (by show (laidB s (sb d)).length = _; rw [hll]; omega) h2c (by omega) h2n H3 fun h4 H4 => ⟨_, rfl, ?_⟩
    refine wal_records.J1_of (br_false rfl ?_)
    have ew2 : IntKind.u32.wrap (12 + ((d.size : Nat) : Int)) = ((12 + d.size : Nat) : Int) := by
      rw [show (12 : Int) + (d.size : Nat) = ((12 + d.size : Nat) : Int) by omega, wrap_u32_id (by omega)]
    dsimp only
    rw [ew2, ew]
    refine cutG (i := 12) (j := 12 + d.size) (lo := some (.int .i64 12)) (hi := some (.int .u32 (12 + d.size : Nat))) E_sl_uint8 g hn hnc hn0 (by omega) (by omega) rfl rfl fun a3 c3 g3 h30 h3c h3n => ⟨_, _, _, rfl, ?_⟩
    rw [e3] at g3
    refine hwp_b2s U_string U_sl_uint8 U_uint8 (g3 _ H4.tl) (by rw [sb_len]; omega) h30 ⟨_, rfl, ?_⟩
    rw [st_sb]
    refine H4.app_vals (ys := rcV (s, d)) (m := 1) E_sl_api_Record rfl rfl (by simp [rcV, oneC]) (fun h5 x5 c5 H5 => ⟨_, _, _, rfl, ?_⟩) (by omega) (by omega)
    refine bytes_tailG (i := d.size + 16) E_sl_uint8 g hn hnc hn0 (by omega) fun a6 c6 g6 h60 h6c h6n => ⟨_, _, _, rfl, ?_⟩
    rw [e5] at g6
    have ew3 : IntKind.i64.wrap (((s : Nat) : Int) + 1) = ((s + 1 : Nat) : Int) := by rw [wrap_i64_z (by omega) (by omega)]; omega
    rw [ew3]
    have ge := body_ge ds (s + 1)
    refine rec_loop t ds (s + 1) (dn ++ [(s, d)]) (fun e he => hd e (List.mem_cons_of_mem _ he)) (by omega) (by omega) (by omega) g6 (by omega) h6c h6n (by rw [List.flatMap_append]; exact H5) fun h' x' c' H' => ?_
    have el : xn + 1 + ds.length = xn + (ds.length + 1) := by omega
    rw [el, show dn ++ [(s, d)] ++ rcs (s + 1) ds = dn ++ rcs s (d :: ds) by rw [List.append_assoc]; rfl] at H'
    rw [el]
    exact kk h' x' c' H'
theorem records_hs {f s : Nat} {ds : List Nm} (t : TabL L) (hd : ∀ d ∈ ds, d.size ≤ 65536) (hs : s + ds.length < 2 ^ 40) (g : Gv L a (nV (headB f ++ body s ds))) (hn : (headB f ++ body s ds).length = n) (hnc : n ≤ c) (hmax : n < 2 ^ 32) (hn0 : a = none → c = 0) (H : Hs h L)
    (kk : ∀ h' x' c', Hs h' (own x' ds.length c' T_api_Record 2 ((rcs s ds).flatMap rcV) :: L) → Q (.tuple #[.slice x' ds.length c', .bool true]) h') : SpecH PP F_wal_records [.slice a n c, .int .i64 (s : Nat)] h Q := by
  have hl := head_len f
  have hl2 : n = 16 + (body s ds).length := by rw [← hn, List.length_append, hl]
  refine wal_records.door ?_
  refine bytes_tailG (i := 16) E_sl_uint8 g hn hnc hn0 (by omega) fun a6 c6 g6 h60 h6c h6n => ⟨_, _, _, rfl, ?_⟩
  rw [List.drop_left' hl] at g6
  have ge := body_ge ds s
  refine rec_loop (xn := 0) t ds s [] hd hs (by omega) (by omega) g6 (by omega) h6c h6n (H.own_nil _ _) fun h' x' c' H' => ?_
  rw [Nat.zero_add] at H' ⊢
  exact kk h' x' c' H'
end Go.Proofs.YtjihchpobpgpeaaGreatDoor

set_option maxRecDepth 20000
set_option linter.unusedVariables false
set_option linter.unusedSimpArgs false
namespace Go.Proofs.YtjihchpobpgpeaaGreatDoor
open Go Go.HW Go.HW.Dec
variable {h : Heap} {L : List Assn} {Q : Value → Heap → Prop} {q p : Nat} {d : DS} {l : LS}
abbrev G_pow10 : Nat := 3
def PTab (h : Heap) : Prop := ∃ t fz, h[G_pow10]? = some (.cells (Lib.pow10Tab.map fun z => Value.int .u64 z).toArray t fz)
theorem PTab.keep {h h' : Heap} (t : PTab h) (e : ExtB h.size h h') : PTab h' := let ⟨a, b, c⟩ := t; ⟨a, b, e.toExt _ _ c⟩
def PTabL (L : List Assn) : Prop := ∀ h, Hs h L → PTab h
theorem PTabL.cons {A : Assn} (t : PTabL L) : PTabL (A :: L) := fun h H => t h H.tl
theorem PTabL.ro {h0 : Heap} (t : PTab h0) : PTabL (ro h0 :: L) := fun h H => t.keep H.ro_below
theorem var_p {w : World} (t : PTab w.heap) : Lib.TabIs PP w "internal/strconv.uint64pow10" .u64 Lib.pow10Tab := by
  obtain ⟨a, b, c⟩ := t
  unfold Lib.TabIs World.var?
  rw [show PP.globalNamed "internal/strconv.uint64pow10" = some G_pow10 from by kernel_rfl]
  simp only [Option.bind_some, c]
theorem Itoa_hs {n : Int} (t : PTabL L) (H : Hs h L) (h0 : -9223372036854775808 ≤ n) (h1 : n ≤ 9223372036854775807) (kk : ∀ h', Hs h' L → Q (.string ⟨(Lib.itoa n).toArray⟩) h') :
    SpecH PP F_strconv_Itoa [.int .i64 n] h Q :=
  of_below fun w hw => (Tryz.strconv_Itoa n h0 h1 w (var_p (by subst hw; exact t _ H))).mono fun e w' ⟨he, k, os, hw'⟩ => ⟨_, he, by rw [hw']; exact below_grow w k os, fun x => kk _ (H.ext x.toExt)⟩
theorem dec7 {n : Nat} (h1 : 1000000 ≤ n) (h2 : n < 10000000) : decN n = [48 + n / 1000000, 48 + n / 100000 % 10, 48 + n / 10000 % 10, 48 + n / 1000 % 10, 48 + n / 100 % 10, 48 + n / 10 % 10, 48 + n % 10] := by
  rw [decN_ge (by omega), decN_ge (by omega), decN_ge (by omega), decN_ge (by omega), decN_ge (by omega), decN_ge (by omega), decN_lt (by omega)]
  simp only [Nat.div_div_eq_div_mul, List.cons_append, List.nil_append]
theorem seg_sb : ∀ i : Fin 100, sb (segName i) = [108, 111, 103, 46, 48 + (1000001 + i.1) / 100000 % 10, 48 + (1000001 + i.1) / 10000 % 10, 48 + (1000001 + i.1) / 1000 % 10, 48 + (1000001 + i.1) / 100 % 10, 48 + (1000001 + i.1) / 10 % 10, 48 + (1000001 + i.1) % 10] := by
  decide +kernel
theorem seg_itoa {i : Nat} (hi : i < 100) : (⟨#[108, 111, 103, 46]⟩ : ByteArray) ++ (ByteArray.mk (Lib.itoa ((1000001 + i : Nat) : Int)).toArray).extract 1 7 = segName i := by
  refine sb_inj ?_
  rw [sb_app, sb_extract, sb_itoa, dec7 (by omega) (by omega), seg_sb ⟨i, hi⟩]
  rfl
theorem itoa7 {i : Nat} (hi : i < 100) : (ByteArray.mk (Lib.itoa ((1000001 + i : Nat) : Int)).toArray).size = 7 := by
  rw [← sb_len, sb_itoa, dec7 (by omega) (by omega)]
  rfl
theorem seg_size {i : Nat} (hi : i < 100) : (segName i).size = 10 := by rw [← sb_len, seg_sb ⟨i, hi⟩]; rfl
/-- Segments' blocks, and one more. -/
theorem sp_snoc {sg : List (Nat × Seg)} {x : Nat × Seg} {M : List Assn} : Hs h (Sp ((sg ++ [x]).map sgB) :: M) ↔ Hs h (sgB x :: Sp (sg.map sgB) :: M) := by
  rw [List.map_append]
  constructor
  · intro H
    have H1 := Hs.app.1 H
    have : Hs h (sg.map sgB ++ sgB x :: M) := by rw [List.append_assoc] at H1; exact H1
    exact (Hs.app.2 this).m1
  · intro H
    have H1 := Hs.app.1 H.m1
    refine Hs.app.2 ?_
    rw [List.append_assoc]; exact H1
theorem begin_hs {f : Nat} (t : TabL L) (tp : PTabL L) (hd : DI d) (hb : d.steps + 4 < 2 ^ 38) (hl : LI l) (hf : f < 2 ^ 40) (hfile : l.file < 100)
    (h1 : (d.create (segName l.file)).2 = 0) (h2 : ((d.create (segName l.file)).1.append (segName l.file) (headB f)).2 = 0) (H : Hs h (logA q p d l :: L))
    (kk : ∀ h', Hs h' (logA q p ((d.create (segName l.file)).1.append (segName l.file) (headB f)).1 ⟨l.segs ++ [⟨segName l.file, f, f, 16, true⟩], l.synced, true, l.file + 1⟩ :: L) → Q (.int .i64 0) h') :
    SpecH PP F_wal_Log_begin [.pointer (some ⟨q, 0, none⟩), .int .i64 (f : Nat)] h Q := by
  obtain ⟨sg, a, c, e, H0⟩ := logA_open.1 H
  have hsl := sg_len e
  have hll := hl.len
  refine wal_Log_begin.door ⟨_, H0.cell (off := 4) rfl, ?_⟩
  have ew : IntKind.i64.wrap (1000001 + ((l.file : Nat) : Int)) = ((1000001 + l.file : Nat) : Int) := by rw [wrap_i64_z (by omega) (by omega)]; omega
  dsimp only
  rw [ew]
  have tp0 : PTabL (pt q T_wal_Log (lgV p l a c) :: own a l.segs.length c T_p_wal_segment 1 (sg.map fun x : Nat × Seg => ptrV x.1) :: Sp (sg.map sgB) :: diskA p d :: L) := tp.cons.cons.cons.cons
  refine Itoa_hs tp0 H0 (by omega) (by omega) fun h3 H3 => ⟨_, rfl, ?_⟩
  have i7 := itoa7 hfile
  refine hwp_ssub (lo := some (.int .i64 1)) (hi := none) U_string trivial trivial (by simp [bnd]) (by show (1 : Int) ≤ _; rw [i7]; decide) (by simp [bnd]) ⟨_, rfl, ?_⟩
  rw [show (bnd (some (Value.int .i64 1)) 0).toNat = 1 from rfl, show (bnd none (((ByteArray.mk (Lib.itoa ((1000001 + l.file : Nat) : Int)).toArray).size : Nat) : Int)).toNat = 7 by rw [i7]; rfl]
  refine br_true (by
    rw [← ByteArray.size_append, seg_itoa hfile, seg_size hfile]; decide) ?_
  rw [seg_itoa hfile]
  have H4 := H3.new (t := T_wal_segment) (cs := #[(.string (segName l.file)), (.int .i64 (f : Nat)), (.int .i64 (f : Nat)), (.int .i64 16), (.bool true)]) (xs := sgV ⟨segName l.file, f, f, 16, true⟩)
  generalize Array.size h3 = s at H4 ⊢
  generalize Array.push h3 _ = h4 at H4 ⊢
  refine ⟨_, H4.m1.cell (off := 0) rfl, _, H4.cell (off := 0) rfl, ?_⟩
  refine Create_hs hd (by omega) (by rw [seg_size hfile]; decide) (H4.sel 5 [4, 0, 1, 2, 3]) fun h5 H5 => ⟨_, rfl, ?_⟩
  have hd1 := hd.create (segName l.file)
  have hs1 := create_steps (d := d) (segName l.file)
  generalize d.create (segName l.file) = r1 at *
  rw [h1]
  refine br_false rfl (wal_Log_begin.J1_of (br_false rfl ?_))
  have H5 := H5.sel 5 [2, 3, 1, 4, 0]
  refine H5.sto (off := 3) (by simp [lgV]) fun h6 H6 => ?_
  have fin : ∀ {h : Heap} {b : OA} {m : Nat}, Hs h (own b 16 m T_uint8 1 (nV (headB f)) :: pt q T_wal_Log ((lgV p l a c).set 3 (.bool true)) :: own a l.segs.length c T_p_wal_segment 1 (sg.map fun x : Nat × Seg => ptrV x.1) :: pt s T_wal_segment (sgV ⟨segName l.file, f, f, 16, true⟩) :: Sp (sg.map sgB) :: diskA p r1.1 :: L) →
      SpecH PP F_disk_Disk_Append [(.pointer (some ⟨p, 0, none⟩)), (.string (segName l.file)), (.slice b 16 m)] h (fun v_9 h11 => ∃ (t51_4 : Int), v_9 = (.int .i64 t51_4) ∧ wal_Log_begin.J2 (some ⟨q, 0, none⟩) ⟨s, 0, none⟩ t51_4 Q h11) := by
    intro h b m H7
    refine Append_hs (L := own b 16 m T_uint8 1 (nV (headB f)) :: pt q T_wal_Log ((lgV p l a c).set 3 (.bool true)) :: own a l.segs.length c T_p_wal_segment 1 (sg.map fun x : Nat × Seg => ptrV x.1) :: pt s T_wal_segment (sgV ⟨segName l.file, f, f, 16, true⟩) :: Sp (sg.map sgB) :: L)
      hd1 (by omega) Gv.own (head_len f) (by decide) (own_n0 H7) (H7.sel 6 [5, 0, 1, 2, 3, 4]) fun h8 H8 => ⟨_, rfl, ?_⟩
    rw [h2]
    have H8 := H8.sel 6 [2, 3, 4, 5, 0]
    refine wal_Log_begin.J2_of (br_false rfl ⟨_, H8.cell (off := 4) rfl, ?_⟩)
    have ew2 : IntKind.i64.wrap (((l.file : Nat) : Int) + 1) = ((l.file + 1 : Nat) : Int) := by rw [wrap_i64_z (by omega) (by omega)]; omega
    dsimp only
    rw [ew2]
    refine H8.sto (off := 4) (by simp [lgV]) fun h9 H9 => ⟨_, _, _, H9.cell (off := 1) rfl, ?_⟩
    refine H9.m1.app_vals (ys := [ptrV s]) (m := 1) E_sl_p_wal_segment rfl rfl (by simp [ptrV, oneC]) (fun h10 a10 c10 H10 => ⟨_, _, _, rfl, ?_⟩) (by omega) (by omega)
    refine H10.m1.sto (off := 1) (by simp [lgV]) fun h11 H11 => ?_
    refine kk _ (logA_open.2 ⟨sg ++ [(s, ⟨segName l.file, f, f, 16, true⟩)], a10, c10, by simp [e], ?_⟩)
    have e1 : (((lgV p l a c).set 3 (.bool true)).set 4 (.int .i64 ((l.file + 1 : Nat) : Int))).set 1 (.slice a10 (l.segs.length + 1) c10) = lgV p ⟨l.segs ++ [⟨segName l.file, f, f, 16, true⟩], l.synced, true, l.file + 1⟩ a10 c10 := by simp [lgV]
    rw [e1] at H11
    have H12 := (sp_snoc (x := (s, ⟨segName l.file, f, f, 16, true⟩))).2 (H11.sel 5 [2, 3, 0, 1, 4])
    rw [List.map_append, List.length_append]
    exact H12.sel 4 [1, 2, 0, 3]
  have H6' := H6
  have t6 : TabL (pt q T_wal_Log ((lgV p l a c).set 3 (.bool true)) :: own a l.segs.length c T_p_wal_segment 1 (sg.map fun x : Nat × Seg => ptrV x.1) :: pt s T_wal_segment (sgV ⟨segName l.file, f, f, 16, true⟩) :: Sp (sg.map sgB) :: diskA p r1.1 :: L) := t.cons.cons.cons.cons.cons
  repeat' first
    | exact trivial
    | refine And.intro ?_ ?_
    | exact ⟨_, H6.cell (off := 0) rfl, trivial⟩
    | refine ⟨_, H6.cell (off := 0) rfl, ?_⟩
    | refine ⟨_, (H6.sel 3 [2, 0, 1]).cell (off := 0) rfl, ?_⟩
    | refine head_hs t6 (by omega) H6 fun h7 a7 c7 H7 => ⟨_, _, _, rfl, (fun (cs : cellH h7 ⟨s, 0, none⟩ = some (.string (segName l.file))) (cq : cellH h7 ⟨q, 0, none⟩ = some (ptrV p)) => ?_) ((H7.sel 4 [3, 0, 1, 2]).cell (off := 0) rfl) (H7.m1.cell (off := 0) rfl)⟩
    | refine ⟨_, (by assumption : cellH _ ⟨s, 0, none⟩ = some (.string (segName l.file))), ?_⟩
    | refine ⟨_, (by assumption : cellH _ ⟨q, 0, none⟩ = some (ptrV p)), ?_⟩
    | exact fin (by assumption)
theorem LI.begin {f : Nat} (hl : LI l) (hf : 1 ≤ f ∧ f < 2 ^ 40) (hn : l.segs.length < 1000) (hfile : l.file < 1000) {sy : Nat} {nm : Bool} {n : Nm} : LI ⟨l.segs ++ [⟨n, f, f, 16, true⟩], sy, nm, l.file + 1⟩ := by
  refine ⟨fun s hs => ?_, by simp; omega, by show l.file + 1 < _; omega⟩
  rcases List.mem_append.1 hs with q | q
  · exact hl.seg s q
  · rw [List.mem_singleton.1 q]; exact ⟨hf.1, hf.2, hf.2, by show 16 < 2 ^ 40; decide⟩
/-- A log's last segment. -/
theorem logA_last {xs : List Seg} {s : Seg} (es : l.segs = xs ++ [s]) : Hs h (logA q p d l :: L) ↔ ∃ (sg : List (Nat × Seg)) (b : Nat) (a : OA) (c : Nat), sg.map (·.2) = xs ∧
    Hs h (pt q T_wal_Log (lgV p l a c) :: own a (xs.length + 1) c T_p_wal_segment 1 ((sg.map fun x : Nat × Seg => ptrV x.1) ++ [ptrV b]) :: pt b T_wal_segment (sgV s) :: Sp (sg.map sgB) :: diskA p d :: L) := by
  rw [logA_open]
  have el : l.segs.length = xs.length + 1 := by rw [es]; simp
  constructor
  · rintro ⟨sg, a, c, e, H⟩
    rw [es] at e
    obtain ⟨l1, l2, rfl, e1, e2⟩ := List.map_eq_append_iff.1 e
    obtain ⟨⟨b, s'⟩, rfl⟩ : ∃ x, l2 = [x] := by
      cases l2 with
      | nil => cases e2
      | cons x l2 => cases l2 with
        | nil => exact ⟨x, rfl⟩
        | cons y l2 => simp at e2
    have : s' = s := by simpa using e2
    subst this
    refine ⟨l1, b, a, c, e1, ?_⟩
    rw [el, List.map_append] at H
    exact ((sp_snoc.1 (H.sel 3 [2, 0, 1])).sel 4 [2, 3, 0, 1])
  · rintro ⟨sg, b, a, c, e, H⟩
    refine ⟨sg ++ [(b, s)], a, c, by simp [e, es], ?_⟩
    rw [el, List.map_append]
    exact ((sp_snoc (x := (b, s))).2 (H.sel 4 [2, 3, 0, 1])).sel 3 [1, 2, 0]
theorem lay_hs {xs : List Seg} {s : Seg} {n : Nat} {dt : Nm} (t : TabL L) (hd : DI d) (hb : d.steps + 4 < 2 ^ 38) (hl : LI l) (es : l.segs = xs ++ [s]) (hn : n < 2 ^ 40) (hdt : dt.size ≤ 65536)
    (h1 : (d.append s.name (laidB n (sb dt))).2 = 0) (H : Hs h (logA q p d l :: L))
    (kk : ∀ h', Hs h' (logA q p (d.append s.name (laidB n (sb dt))).1 ⟨xs ++ [⟨s.name, s.first, s.next + 1, s.size + (laidB n (sb dt)).length, true⟩], l.synced, l.names, l.file⟩ :: L) → Q (.int .i64 0) h') :
    SpecH PP F_wal_Log_lay [.pointer (some ⟨q, 0, none⟩), .agg #[.int .i64 (n : Nat), .string dt]] h Q := by
  obtain ⟨sg, b, a, c, e, H0⟩ := (logA_last es).1 H
  have hsl : sg.length = xs.length := by rw [← e, List.length_map]
  have hll := hl.len
  have el : l.segs.length = xs.length + 1 := by rw [es]; simp
  have hs := hl.seg s (by rw [es]; simp)
  have hlen := laid_len n (sb dt)
  rw [sb_len] at hlen
  refine wal_Log_lay.door ?_
  dsimp only
  have H1 := H0.new (t := T_api_Record) (cs := #[(.int .i64 (n : Nat)), (.string dt)]) (xs := [.int .i64 (n : Nat), .string dt])
  generalize Array.size h = r at H1 ⊢
  generalize Array.push h _ = h2 at H1 ⊢
  refine ⟨_, _, _, H1.m1.cell (off := 1) rfl, _, _, _, H1.m1.cell (off := 1) rfl, ?_⟩
  have ew : IntKind.i64.wrap (((l.segs.length : Nat) : Int) - 1) = ((xs.length : Nat) : Int) := by rw [wrap_i64_z (by omega) (by omega)]; omega
  rw [ew]
  refine idx E_sl_p_wal_segment (v := ptrV b) H1.m2.rd (by omega) (by omega) (by rw [Int.toNat_natCast, List.getElem?_append_right (by simp [hsl])]; simp [hsl]) fun t1 ht => ⟨_, ht, _, _, H1.rdc0 rfl, ?_⟩
  have H2 := H1.sel 6 [1, 2, 3, 4, 5]
  have t2 : TabL (pt q T_wal_Log (lgV p l a c) :: own a (xs.length + 1) c T_p_wal_segment 1 ((sg.map fun x : Nat × Seg => ptrV x.1) ++ [ptrV b]) :: pt b T_wal_segment (sgV s) :: Sp (sg.map sgB) :: diskA p d :: L) := t.cons.cons.cons.cons.cons
  refine laid_hs t2 (by omega) hdt H2 fun h3 a3 c3 H3 => ⟨_, _, _, rfl, _, H3.m1.cell (off := 0) rfl, _, H3.m3.cell (off := 0) rfl, ?_⟩
  refine Append_hs (L := own a3 (laidB n (sb dt)).length c3 T_uint8 1 (nV (laidB n (sb dt))) :: pt q T_wal_Log (lgV p l a c) :: own a (xs.length + 1) c T_p_wal_segment 1 ((sg.map fun x : Nat × Seg => ptrV x.1) ++ [ptrV b]) :: pt b T_wal_segment (sgV s) :: Sp (sg.map sgB) :: L)
    hd (by omega) Gv.own rfl (by omega) (own_n0 H3) (H3.sel 6 [5, 0, 1, 2, 3, 4]) fun h4 H4 => ⟨_, rfl, ?_⟩
  rw [h1]
  have H5 := H4.sel 6 [4, 2, 3, 5, 0]
  refine br_false rfl ⟨_, H5.cell (off := 3) rfl, ?_⟩
  have ew3 : IntKind.i64.wrap (((s.size : Nat) : Int) + (((laidB n (sb dt)).length : Nat) : Int)) = ((s.size + (laidB n (sb dt)).length : Nat) : Int) := by rw [wrap_i64_z (by omega) (by omega)]; omega
  rw [ew3]
  refine H5.sto (off := 3) (by simp [sgV]) fun h6 H6 => ⟨_, H6.cell (off := 2) rfl, ?_⟩
  have ew4 : IntKind.i64.wrap (((s.next : Nat) : Int) + 1) = ((s.next + 1 : Nat) : Int) := by rw [wrap_i64_z (by omega) (by omega)]; omega
  rw [ew4]
  refine H6.sto (off := 2) (by simp [sgV]) fun h7 H7 => ?_
  refine H7.sto (off := 4) (by simp [sgV]) fun h8 H8 => ?_
  refine kk _ ((logA_last (l := ⟨xs ++ [⟨s.name, s.first, s.next + 1, s.size + (laidB n (sb dt)).length, true⟩], l.synced, l.names, l.file⟩) rfl).2 ⟨sg, b, a, c, e, ?_⟩)
  have e2 : lgV p ⟨xs ++ [⟨s.name, s.first, s.next + 1, s.size + (laidB n (sb dt)).length, true⟩], l.synced, l.names, l.file⟩ a c = lgV p l a c := by simp [lgV, el]
  rw [e2]
  exact H8.sel 5 [1, 2, 0, 3, 4]
theorem LI.lay {xs : List Seg} {s : Seg} {m : Nat} (hl : LI l) (es : l.segs = xs ++ [s]) (h1 : s.next + 1 < 2 ^ 40) (h2 : s.size + m < 2 ^ 40) {sy : Nat} {nm : Bool} : LI ⟨xs ++ [⟨s.name, s.first, s.next + 1, s.size + m, true⟩], sy, nm, l.file⟩ := by
  have hs := hl.seg s (by rw [es]; simp)
  have hll := hl.len
  rw [es, List.length_append, List.length_singleton] at hll
  refine ⟨fun x hx => ?_, by simpa using hll, hl.file⟩
  rcases List.mem_append.1 hx with q | q
  · exact hl.seg x (by rw [es]; exact List.mem_append_left _ q)
  · rw [List.mem_singleton.1 q]; exact ⟨by show 1 ≤ s.next + 1; omega, hs.2.1, h1, h2⟩
end Go.Proofs.YtjihchpobpgpeaaGreatDoor

set_option maxRecDepth 20000
set_option linter.unusedVariables false
set_option linter.unusedSimpArgs false
namespace Go.Proofs.YtjihchpobpgpeaaGreatDoor
open Go Go.HW
variable {h : Heap} {L : List Assn} {Q : Value → Heap → Prop} {q p : Nat} {d : DS} {l : LS}
theorem getLast_snoc {xs : List Seg} {s : Seg} (es : l.segs = xs ++ [s]) : l.segs.getLast? = some s := by rw [es]; simp
theorem last_snoc {xs : List Seg} {s : Seg} (es : l.segs = xs ++ [s]) : l.last = s.next - 1 := last_eq (getLast_snoc es)
theorem WLong_hs {dt : Nm} (hdt : 65536 < dt.size) (k : Q (.tuple #[.int .i64 0, .int .i64 2]) h) : SpecH PP F_wal_Log_Append [.pointer (some ⟨q, 0, none⟩), .string dt] h Q := by
  refine wal_Log_Append.door (br_false rfl (br_true ?_ k))
  simp; omega
theorem wapp_pre {xs : List Seg} {s : Seg} {dt : Nm} (hl : LI l) (es : l.segs = xs ++ [s]) (hdt : dt.size ≤ 65536) (H : Hs h (logA q p d l :: L))
    (kk : ∀ h' r, Hs h' (logA q p d l :: pt r T_api_Record [.int .i64 (s.next : Nat), .string dt] :: L) →
      br (decide (((s.size : Nat) : Int) > 16384)) (∃ (t39 : Int), cellH h' ⟨r, 0, none⟩ = some (.int .i64 t39) ∧
        SpecH PP F_wal_Log_begin [(.pointer (some ⟨q, 0, none⟩)), (.int .i64 t39)] h' (fun v_2 h5 => ∃ (t40 : Int), v_2 = (.int .i64 t40) ∧
        br (t40 != 0) (Q (.tuple #[(.int .i64 0), (.int .i64 t40)]) h5) (wal_Log_Append.J1 (some ⟨q, 0, none⟩) ⟨r, 0, none⟩ Q h5))) (wal_Log_Append.J1 (some ⟨q, 0, none⟩) ⟨r, 0, none⟩ Q h')) :
    SpecH PP F_wal_Log_Append [.pointer (some ⟨q, 0, none⟩), .string dt] h Q := by
  have hs := hl.seg s (by rw [es]; simp)
  have el : l.segs.length = xs.length + 1 := by rw [es]; simp
  have hll := hl.len
  refine wal_Log_Append.door (br_false rfl (br_false (by simp; omega) ?_))
  refine Last_hs hl H ⟨_, rfl, ?_⟩
  have ew : IntKind.i64.wrap (((l.last : Nat) : Int) + 1) = ((s.next : Nat) : Int) := by rw [last_snoc es, wrap_i64_z (by omega) (by omega)]; omega
  dsimp only
  rw [ew]
  have H1 := H.new (t := T_api_Record) (cs := #[(.int .i64 0), (.string (⟨#[]⟩ : ByteArray))]) (xs := [.int .i64 0, .string ⟨#[]⟩])
  generalize Array.size h = r at H1 ⊢
  generalize Array.push h _ = h2 at H1 ⊢
  refine H1.wrs (fun h3 H3 => ?_)
  obtain ⟨sg, b, a, c, e, H4⟩ := (logA_last es).1 H3.m1
  have hsl : sg.length = xs.length := by rw [← e, List.length_map]
  refine ⟨_, _, _, H4.cell (off := 1) rfl, _, _, _, H4.cell (off := 1) rfl, ?_⟩
  have ew2 : IntKind.i64.wrap (((l.segs.length : Nat) : Int) - 1) = ((xs.length : Nat) : Int) := by rw [wrap_i64_z (by omega) (by omega)]; omega
  rw [ew2]
  refine idx E_sl_p_wal_segment (v := ptrV b) H4.m1.rd (by omega) (by omega) (by rw [Int.toNat_natCast, List.getElem?_append_right (by simp [hsl])]; simp [hsl]) fun t1 ht => ⟨_, ht, ?_⟩
  exact ⟨_, H4.m2.cell (off := 3) rfl, kk h3 r ((logA_last es).2 ⟨sg, b, a, c, e, H4⟩)⟩
theorem wapp_j1 {xs : List Seg} {s : Seg} {dt : Nm} {n r : Nat} (t : TabL L) (hd : DI d) (hb : d.steps + 4 < 2 ^ 38) (hl : LI l) (es : l.segs = xs ++ [s]) (hn : n < 2 ^ 40) (hdt : dt.size ≤ 65536)
    (h1 : (d.append s.name (laidB n (sb dt))).2 = 0) (H : Hs h (logA q p d l :: pt r T_api_Record [.int .i64 (n : Nat), .string dt] :: L))
    (kk : ∀ h', Hs h' (logA q p (d.append s.name (laidB n (sb dt))).1 ⟨xs ++ [⟨s.name, s.first, s.next + 1, s.size + (laidB n (sb dt)).length, true⟩], l.synced, l.names, l.file⟩ :: L) → Q (.tuple #[.int .i64 (n : Nat), .int .i64 0]) h') :
    wal_Log_Append.J1 (some ⟨q, 0, none⟩) ⟨r, 0, none⟩ Q h := by
  refine wal_Log_Append.J1_of ⟨_, _, H.m1.rdc0 rfl, ?_⟩
  refine lay_hs t.cons hd hb hl es hn hdt h1 H fun h2 H2 => ⟨_, rfl, br_false rfl ⟨_, H2.m1.cell (off := 0) rfl, ?_⟩⟩
  exact kk _ (H2.sel 2 [0])
/-- Append into the segment that is there. -/
theorem WAppend_hs {xs : List Seg} {s : Seg} {dt : Nm} (t : TabL L) (hd : DI d) (hb : d.steps + 4 < 2 ^ 38) (hl : LI l) (es : l.segs = xs ++ [s]) (hdt : dt.size ≤ 65536) (hsz : s.size ≤ 16384)
    (h1 : (d.append s.name (laidB s.next (sb dt))).2 = 0) (H : Hs h (logA q p d l :: L))
    (kk : ∀ h', Hs h' (logA q p (d.append s.name (laidB s.next (sb dt))).1 ⟨xs ++ [⟨s.name, s.first, s.next + 1, s.size + (laidB s.next (sb dt)).length, true⟩], l.synced, l.names, l.file⟩ :: L) → Q (.tuple #[.int .i64 (s.next : Nat), .int .i64 0]) h') :
    SpecH PP F_wal_Log_Append [.pointer (some ⟨q, 0, none⟩), .string dt] h Q := by
  have hs := hl.seg s (by rw [es]; simp)
  refine wapp_pre hl es hdt H fun h' r H' => br_false (by simp; omega) ?_
  exact wapp_j1 t hd hb hl es (by omega) hdt h1 H' kk
/-- Append into a new segment. -/
theorem WRoll_hs {xs : List Seg} {s : Seg} {dt : Nm} (t : TabL L) (tp : PTabL L) (hd : DI d) (hb : d.steps + 8 < 2 ^ 38) (hl : LI l) (es : l.segs = xs ++ [s]) (hdt : dt.size ≤ 65536) (hsz : 16384 < s.size) (hfile : l.file < 100) (hlen : l.segs.length < 1000)
    (h1 : (d.create (segName l.file)).2 = 0) (h2 : ((d.create (segName l.file)).1.append (segName l.file) (headB s.next)).2 = 0)
    (h3 : (((d.create (segName l.file)).1.append (segName l.file) (headB s.next)).1.append (segName l.file) (laidB s.next (sb dt))).2 = 0) (H : Hs h (logA q p d l :: L))
    (kk : ∀ h', Hs h' (logA q p (((d.create (segName l.file)).1.append (segName l.file) (headB s.next)).1.append (segName l.file) (laidB s.next (sb dt))).1
      ⟨(xs ++ [s]) ++ [⟨segName l.file, s.next, s.next + 1, 16 + (laidB s.next (sb dt)).length, true⟩], l.synced, true, l.file + 1⟩ :: L) → Q (.tuple #[.int .i64 (s.next : Nat), .int .i64 0]) h') :
    SpecH PP F_wal_Log_Append [.pointer (some ⟨q, 0, none⟩), .string dt] h Q := by
  have hs := hl.seg s (by rw [es]; simp)
  refine wapp_pre hl es hdt H fun h' r H' => br_true (by simp; omega) ⟨_, H'.m1.cell (off := 0) rfl, ?_⟩
  have hc := create_steps (d := d) (segName l.file)
  have ha := append_steps (d := (d.create (segName l.file)).1) (segName l.file) (headB s.next)
  refine begin_hs t.cons tp.cons hd (by omega) hl (by omega) hfile h1 h2 H' fun h5 H5 => ⟨_, rfl, br_false rfl ?_⟩
  have hl2 : LI ⟨l.segs ++ [⟨segName l.file, s.next, s.next, 16, true⟩], l.synced, true, l.file + 1⟩ := hl.begin ⟨hs.1, by omega⟩ (by omega) (by omega)
  have es2 : (⟨l.segs ++ [⟨segName l.file, s.next, s.next, 16, true⟩], l.synced, true, l.file + 1⟩ : LS).segs = (xs ++ [s]) ++ [⟨segName l.file, s.next, s.next, 16, true⟩] := by rw [es]
  exact wapp_j1 t ((hd.create _).append _ _) (by omega) hl2 es2 (by omega) hdt h3 H5 kk
/-! ### Sync -/
def clean (s : Seg) : Seg := { s with dirty := false }
def syncs (d : DS) (l : List Seg) : DS := l.foldl (fun d s => if s.dirty then (d.sync s.name).1 else d) d
theorem sp_mid {x z : List (Nat × Seg)} {y : Nat × Seg} {M : List Assn} : Hs h (Sp ((x ++ y :: z).map sgB) :: M) ↔ Hs h (sgB y :: Sp ((x ++ z).map sgB) :: M) := by
  have p : ((x ++ y :: z).map sgB).Perm (sgB y :: (x ++ z).map sgB) := by
    have : (x ++ y :: z).Perm (y :: (x ++ z)) := List.perm_middle
    exact this.map sgB
  constructor
  · intro H
    have H1 := Hs.app.1 H
    have H2 : Hs h ((sgB y :: (x ++ z).map sgB) ++ M) := H1.perm (p.append_right M)
    have H3 : Hs h ((x ++ z).map sgB ++ (sgB y :: M)) := H2.perm (by
      show (sgB y :: ((x ++ z).map sgB ++ M)).Perm _
      exact List.perm_middle.symm)
    exact (Hs.app.2 H3).m1
  · intro H
    have H1 := Hs.app.1 H.m1
    refine Hs.app.2 (H1.perm ?_)
    refine List.Perm.trans (List.perm_middle) ?_
    exact (p.append_right M).symm
theorem sync_find {n m : Nm} (d : DS) : (d.sync n).1.find m = d.find m := by
  unfold DS.sync; split; rfl; split <;> rfl
theorem sync_left {n : Nm} {d : DS} (h : d.left = none) : (d.sync n).1.left = none := by
  unfold DS.sync; split; exact h; split; exact h; simp [DS.tick, h]
theorem down_none {d : DS} (h : d.left = none) : d.down = false := by unfold DS.down; rw [h]; rfl
theorem sync_ok {n : Nm} {d : DS} (h : d.left = none) (hf : (d.find n).isSome) : (d.sync n).2 = 0 := by
  unfold DS.sync
  rw [if_neg (by rw [down_none h]; simp)]
  obtain ⟨i, e⟩ := Option.isSome_iff_exists.1 hf
  rw [e]
theorem syncs_cons (d : DS) (s : Seg) (l : List Seg) : syncs d (s :: l) = syncs (if s.dirty then (d.sync s.name).1 else d) l := rfl
theorem syncs_all : ∀ (l : List Seg) {d : DS}, DI d → d.left = none → DI (syncs d l) ∧ (syncs d l).left = none ∧ (∀ n, (syncs d l).find n = d.find n) ∧ (syncs d l).steps ≤ d.steps + l.length
  | [], d, hd, hf => ⟨hd, hf, fun _ => rfl, Nat.le_refl _⟩
  | s :: l, d, hd, hf => by
    rw [syncs_cons]
    split
    · obtain ⟨h1, h2, h3, h4⟩ := syncs_all l (hd.sync s.name) (sync_left (n := s.name) hf)
      have := sync_steps (d := d) s.name
      exact ⟨h1, h2, fun n => (h3 n).trans (sync_find d), by rw [List.length_cons]; omega⟩
    · obtain ⟨h1, h2, h3, h4⟩ := syncs_all l hd hf
      exact ⟨h1, h2, h3, by rw [List.length_cons]; omega⟩
theorem sync_loop {a : OA} {n c : Nat} {K : Ex → Fr → Heap → Prop} (hn : n < 2 ^ 20) : ∀ (sgt sgd : List (Nat × Seg)) {h : Heap} {d : DS}, DI d → d.left = none → d.steps + sgt.length + 4 < 2 ^ 38 → (∀ x ∈ sgt, (d.find x.2.name).isSome) → n = sgd.length + sgt.length →
    Hs h (pt q T_wal_Log (lgV p l a c) :: own a n c T_p_wal_segment 1 ((sgd ++ sgt).map fun x => ptrV x.1) :: Sp ((sgd ++ sgt).map sgB) :: diskA p d :: L) →
    (∀ h', Hs h' (pt q T_wal_Log (lgV p l a c) :: own a n c T_p_wal_segment 1 ((sgd ++ sgt.map fun x => (x.1, clean x.2)).map fun x => ptrV x.1) :: Sp ((sgd ++ sgt.map fun x => (x.1, clean x.2)).map sgB) :: diskA p (syncs d (sgt.map (·.2))) :: L) → K (.exit 0) (wal_Log_Sync.X0 (some ⟨q, 0, none⟩)) h') →
    wal_Log_Sync.L1 (some ⟨q, 0, none⟩) a n c (n : Nat) (sgd.length : Nat) K h
  | [], sgd, h, d, hd, hup, hb, hf, hn2, H, kk => by
    have hn2 : n = sgd.length := hn2
    refine wal_Log_Sync.L1_of (br_false (by simp; omega) (kk h H))
  | (b, s) :: sgt, sgd, h, d, hd, hup, hb, hf, hn2, H, kk => by
    rw [List.length_cons] at hn2 hb
    refine wal_Log_Sync.L1_of (br_true (by simp; omega) ?_)
    refine idx E_sl_p_wal_segment (v := ptrV b) H.m1.rd (by omega) (by omega) (by rw [Int.toNat_natCast, List.map_append, List.getElem?_append_right (by simp)]; simp) fun t1 ht => ⟨_, ht, ?_⟩
    have H1 := sp_mid.1 (H.sel 3 [2, 0, 1])
    have ew : IntKind.i64.wrap (((sgd.length : Nat) : Int) + 1) = (((sgd ++ [(b, clean s)]).length : Nat) : Int) := by rw [wrap_i64_z (by omega) (by omega)]; simp
    have fin : ∀ {h : Heap}, Hs h (pt b T_wal_segment (sgV (clean s)) :: Sp ((sgd ++ sgt).map sgB) :: pt q T_wal_Log (lgV p l a c) :: own a n c T_p_wal_segment 1 ((sgd ++ (b, s) :: sgt).map fun x => ptrV x.1) :: diskA p (if s.dirty then (d.sync s.name).1 else d) :: L) →
        wal_Log_Sync.J1 (some ⟨q, 0, none⟩) a n c (n : Nat) (sgd.length : Nat) K h := by
      intro h H
      refine wal_Log_Sync.J1_of ?_
      dsimp only
      rw [ew]
      have hd2 : DI (if s.dirty then (d.sync s.name).1 else d) := by split; exact hd.sync _; exact hd
      have hup2 : (if s.dirty then (d.sync s.name).1 else d).left = none := by split; exact sync_left hup; exact hup
      have hst : (if s.dirty then (d.sync s.name).1 else d).steps ≤ d.steps + 1 := by split; exact sync_steps _; omega
      have hfd : ∀ m, (if s.dirty then (d.sync s.name).1 else d).find m = d.find m := fun m => by split; exact sync_find d; rfl
      refine sync_loop hn sgt (sgd ++ [(b, clean s)]) hd2 hup2 (by omega) (fun x hx => by rw [hfd]; exact hf x (List.mem_cons_of_mem _ hx)) (by simp; omega) ?_ fun h' H' => kk h' ?_
      · have H2 := (sp_mid (y := (b, clean s))).2 H
        have H3 := H2.sel 3 [1, 2, 0]
        rw [List.append_assoc]
        have : (sgd ++ (b, s) :: sgt).map (fun x => ptrV x.1) = (sgd ++ ([(b, clean s)] ++ sgt)).map (fun x => ptrV x.1) := by simp
        rw [this] at H3
        exact H3
      · rw [List.append_assoc] at H'
        exact H'
    refine ⟨_, H1.cell (off := 4) rfl, (br_iff _ _ _).2 ⟨fun e => fin ?_, fun e => ?_⟩⟩
    · have e : s.dirty = false := by simpa using e
      have : clean s = s := by unfold clean; rw [← e]
      rw [this, if_neg (by rw [e]; simp)]
      exact H1.sel 4 [0, 1, 2, 3]
    · have e : s.dirty = true := by simpa using e
      refine ⟨_, H1.m2.cell (off := 0) rfl, _, H1.cell (off := 0) rfl, ?_⟩
      refine Sync_hs hd (by omega) (H1.sel 5 [4, 0, 1, 2, 3]) fun h2 H2 => ⟨_, rfl, ?_⟩
      rw [sync_ok hup (hf (b, s) (List.mem_cons_self ..))]
      have H3 := H2.sel 5 [1, 2, 3, 4, 0]
      refine br_false rfl ?_
      refine H3.sto (off := 4) (by simp [sgV]) fun h4 H4 => fin ?_
      rw [if_pos e]
      exact H4
theorem LI.clean (hl : LI l) {sy : Nat} {nm : Bool} : LI ⟨l.segs.map clean, sy, nm, l.file⟩ := by
  refine ⟨fun s hs => ?_, by simpa using hl.len, hl.file⟩
  obtain ⟨x, hx, rfl⟩ := List.mem_map.1 hs
  exact hl.seg x hx
theorem last_clean {sy : Nat} {nm : Bool} {fi : Nat} : (⟨l.segs.map clean, sy, nm, fi⟩ : LS).last = l.last := by
  unfold LS.last
  simp only [List.getLast?_map]
  cases l.segs.getLast? <;> rfl
/-- The disk when all is safe. -/
def safeD (d : DS) (l : LS) : DS := if l.names then (syncs d l.segs).syncdir.1 else syncs d l.segs
theorem syncdir_ok {d : DS} (h : d.left = none) : d.syncdir.2 = 0 := by unfold DS.syncdir; rw [if_neg (by rw [down_none h]; simp)]
theorem WSync_hs (hd : DI d) (hup : d.left = none) (hb : d.steps + l.segs.length + 8 < 2 ^ 38) (hl : LI l) (hf : ∀ s ∈ l.segs, (d.find s.name).isSome) (H : Hs h (logA q p d l :: L))
    (kk : ∀ h', Hs h' (logA q p (safeD d l) ⟨l.segs.map clean, l.last, false, l.file⟩ :: L) → Q (.int .i64 0) h') : SpecH PP F_wal_Log_Sync [.pointer (some ⟨q, 0, none⟩)] h Q := by
  obtain ⟨sg, a, c, e, H0⟩ := logA_open.1 H
  have hsl := sg_len e
  refine wal_Log_Sync.door (br_false rfl ⟨_, _, _, H0.cell (off := 1) rfl, ?_⟩)
  obtain ⟨hd1, hup1, hf1, hs1⟩ := syncs_all l.segs hd hup
  refine sync_loop (l := l) hl.len sg [] hd hup (by omega) (fun x hx => hf x.2 (by rw [← e]; exact List.mem_map_of_mem hx)) (by simp; omega) H0 fun h1 H1 => wal_Log_Sync.L1_X0 ?_
  rw [e] at H1
  simp only [List.nil_append] at H1
  have hsg : ((sg.map fun x => (x.1, clean x.2)).map (·.2)) = l.segs.map clean := by rw [← e, List.map_map, List.map_map]; rfl
  have hlen : (l.segs.map clean).length = l.segs.length := List.length_map ..
  have j2 : ∀ {h : Heap} {d' : DS}, d' = safeD d l → Hs h (pt q T_wal_Log (lgV p ⟨l.segs.map clean, l.synced, false, l.file⟩ a c) :: own a l.segs.length c T_p_wal_segment 1 ((sg.map fun x => (x.1, clean x.2)).map fun x => ptrV x.1) :: Sp ((sg.map fun x => (x.1, clean x.2)).map sgB) :: diskA p d' :: L) → wal_Log_Sync.J2 (some ⟨q, 0, none⟩) Q h := by
    intro h d' ed H
    subst ed
    rw [← hlen] at H
    refine wal_Log_Sync.J2_of (Last_open (l := ⟨l.segs.map clean, l.synced, false, l.file⟩) hl.clean hsg H ⟨_, rfl, ?_⟩)
    refine H.sto (off := 2) (by simp [lgV]) fun h2 H2 => kk _ (logA_open.2 ⟨sg.map fun x => (x.1, clean x.2), a, c, hsg, ?_⟩)
    have e2 : (lgV p ⟨l.segs.map clean, l.synced, false, l.file⟩ a c).set 2 (.int .i64 (((⟨l.segs.map clean, l.synced, false, l.file⟩ : LS).last : Nat) : Int)) = lgV p ⟨l.segs.map clean, l.last, false, l.file⟩ a c := by rw [last_clean]; simp [lgV]
    rw [e2] at H2
    exact H2
  refine ⟨_, H1.cell (off := 3) rfl, ?_⟩
  have eV : ∀ b, l.names = b → (lgV p l a c).set 3 (.bool false) = lgV p ⟨l.segs.map clean, l.synced, false, l.file⟩ a c := fun _ _ => by simp [lgV]
  refine (br_iff _ _ _).2 ⟨fun en => ⟨_, H1.cell (off := 0) rfl, ?_⟩, fun en => j2 (d' := syncs d l.segs) (by unfold safeD; rw [if_neg (by rw [en]; simp)]) ?_⟩
  · refine SyncDir_hs hd1 (by omega) (H1.sel 4 [3, 0, 1, 2]) fun h2 H2 => ⟨_, rfl, ?_⟩
    rw [syncdir_ok hup1]
    have H3 := H2.sel 4 [1, 2, 3, 0]
    refine br_false rfl (H3.sto (off := 3) (by simp [lgV]) fun h3 H4 => j2 (by unfold safeD; rw [if_pos en]) ?_)
    rw [eV _ en] at H4
    exact H4
  · have : lgV p l a c = lgV p ⟨l.segs.map clean, l.synced, false, l.file⟩ a c := by simp [lgV, en]
    rw [this] at H1
    exact H1
end Go.Proofs.YtjihchpobpgpeaaGreatDoor

set_option maxRecDepth 20000
set_option linter.unusedVariables false
set_option linter.unusedSimpArgs false
namespace Go.Proofs.YtjihchpobpgpeaaGreatDoor
open Go Go.HW
variable {P : Program} {h : Heap} {L : List Assn} {t e : TypeId} {bz : Nat} {z : Value} {b off c : Nat} {ys : List Value}
theorem slice_3 {sz : Nat} (E : Elem P t e sz bz z) {a : Option Addr} {n c i j m : Nat} {k0 k k' : IntKind} {K : Value → Heap → Prop} (hij : i ≤ j) (hjm : j ≤ m) (hmc : m ≤ c) (H : ∀ a' n' c', K (.slice a' n' c') h) :
    hwp P (Instr.sliceAt t (.slice a n c) (some (.int k0 (i : Int))) (some (.int k (j : Int))) (some (.int k' (m : Int)))) K h := by
  unfold Instr.sliceAt
  refine (hwp_bind' _ _ _ _).2 ((hwp_underlying E.und).2 ?_)
  show hwp P (Instr.slice t (.slice a n c) (some (.int k0 (i : Int))) (some (.int k (j : Int))) (some (.int k' (m : Int)))) K h
  unfold Instr.slice
  refine (hwp_bind' _ _ _ _).2 ((hwp_underlying E.und).2 ((hwp_bind' _ _ _ _).2 ?_))
  have key : hwp P (Instr.sliceBounds true n c (some (.int k0 (i : Int))) (some (.int k (j : Int))) (some (.int k' (m : Int)))) (fun p h' => p = (i, j, m) ∧ h' = h) h := by
    unfold Instr.sliceBounds
    refine (hwp_bind' _ _ _ _).2 ?_
    refine hwp_sliceBound (by omega) (by omega) ?_
    refine (hwp_bind' _ _ _ _).2 ?_
    refine hwp_sliceBound (by omega) (by simp; omega) ?_
    refine (hwp_bind' _ _ _ _).2 ?_
    refine hwp_sliceBound (by omega) (by simp; omega) ?_
    simp [hwp, pure]
  refine hwp_mono _ ?_ key
  rintro _ _ ⟨rfl, rfl⟩
  refine (hwp_bind' _ _ _ _).2 (E.sizeOf.2 ?_)
  exact H _ _ _
/-- append into the room that there is: all is laid in place. -/
theorem app_in {t2 : TypeId} {ut : TypeDesc} {ty : TypeId} {m c2 : Nat} {a2 : Option Addr} {vs : List Value} {K : Value → Heap → Prop} (E : Elem P t e 1 bz z) (H : Hs h (pt b e ys :: L)) (hu : P.underlying t2 = some ut) (hnu : notInt ut = true) (hc : off + c ≤ ys.length) (hm : m ≤ c) (hl : vs.length = m) (hr : Rd h a2 vs) (h0 : a2 = none → m = 0) (hv : ∀ v ∈ vs, oneC v = true)
    (k : ∀ h', Hs h' (pt b e (ys.take off ++ vs ++ ys.drop (off + m)) :: L) → K (.slice (some ⟨b, off, none⟩) m c) h') :
    hwp P (Builtin.append_ #[t, t2] ty #[.slice (some ⟨b, off, none⟩) 0 c, .slice a2 m c2]) K h := by
  unfold Builtin.append_
  refine (hwp_bind' _ _ _ _).2 ((hwp_underlying E.und).2 ?_)
  refine (hwp_bind' _ _ _ _).2 (E.sizeOf.2 ?_)
  refine (hwp_bind' _ _ _ _).2 ((hwp_underlying hu).2 ?_)
  refine (hwp_bind' _ _ _ _).2 ?_
  refine pure_step (fun u => match u with | .int _ => true | _ => false) ut false ?_ ?_
  · cases ut <;> first | rfl | cases hnu
  show hwp P (Builtin.lenOf (.slice a2 m c2) >>= _) K h
  refine (hwp_bind' _ _ _ _).2 ?_
  show hwp P (if 0 + m ≤ c then _ else _) K h
  rw [if_pos (by omega)]
  show hwp P (Builtin.firstCells 1 m (.slice a2 m c2) >>= _) K h
  refine (hwp_bind' _ _ _ _).2 (firstCells_ok (by omega) hr h0 ?_)
  show hwp P (storeCells ((⟨b, off, none⟩ : Addr).add (0 * 1)) vs >>= fun _ => _) _ _
  rw [add_mk]
  refine (hwp_bind' _ _ _ _).2 (storeCells_ok _ ?_)
  refine Hs.wrs_at vs H (by omega) hv fun h' H' => ?_
  show K (.slice (some ⟨b, off, none⟩) (0 + m) c) h'
  rw [Nat.zero_add]
  refine k h' ?_
  simp only [Nat.add_zero, Nat.zero_mul, hl] at H'
  exact H'
theorem clear_1 (E : Elem P t e 1 bz z) (hz : z.cells = #[z]) (ho : oneC z = true) (H : Hs h (pt b e ys :: L)) (hl : off < ys.length) {c : Nat} {ty : TypeId} {K : Heap → Prop} (kk : ∀ h', Hs h' (pt b e (ys.take off ++ [z] ++ ys.drop (off + 1)) :: L) → K h') :
    hwp P (Builtin.clear_ #[t] ty #[.slice (some ⟨b, off, none⟩) 1 c]) (fun v h2 => v = .tuple #[] ∧ K h2) h := by
  unfold Builtin.clear_
  refine (hwp_bind' _ _ _ _).2 ((hwp_underlying E.und).2 ?_)
  obtain ⟨inf, hi1, _, _, hi4⟩ := E.info
  have zr : Builtin.zeroCells z.cells 1 = [z].toArray := by
    rw [hz]; unfold Builtin.zeroCells
    apply Array.toList_inj.1
    simp only [List.size_toArray, List.length_singleton, Nat.mul_one, Nat.mod_one, Array.toList_map, Array.toList_range]
    refine List.ext_getElem (by simp) fun j h1 h2 => ?_
    simp
  have key : hwp P (Go.zeroValue e) (fun z' h' => hwp P (do storeCells (⟨b, off, none⟩ : Addr) (Builtin.zeroCells z'.cells (0 + 1)).toList; pure (Value.tuple #[])) (fun v h2 => v = .tuple #[] ∧ K h2) h') h := by
    refine zero_of (by rw [hi1]; exact hi4) ?_
    rw [Nat.zero_add, zr]
    refine (hwp_bind' _ _ _ _).2 (storeCells_ok _ ?_)
    refine Hs.wrs_at [z] H (by simp; omega) (fun v hv => by rw [List.mem_singleton.1 hv]; exact ho) fun h' H' => ⟨rfl, kk h' ?_⟩
    rw [Nat.add_zero] at H'
    exact H'
  exact (hwp_bind' _ _ _ _).2 key
theorem Delete_hs {Q : Value → Heap → Prop} {a : OA} {n c : Nat} {x : Value} {rest : List Value} (H : Hs h (own a (n + 1) c T_p_wal_segment 1 (x :: rest) :: L)) (hv : ∀ v ∈ rest, oneC v = true)
    (kk : ∀ h', Hs h' (own a n c T_p_wal_segment 1 rest :: L) → Q (.slice a n c) h') : SpecH PP F_slices_Delete_wal_segment_wal_segment [.slice a (n + 1) c, .int .i64 0, .int .i64 1] h Q := by
  have hnc := H.own_le
  have hl := H.own_len
  rw [List.length_cons] at hl
  obtain ⟨b, off, ys, rfl, hc1, hx1, H1⟩ := H.own_pt (by omega)
  rw [Nat.mul_one] at hc1 hx1
  refine slices_Delete_wal_segment_wal_segment.door ?_
  refine slice_3 (i := 0) (j := 1) (m := n + 1) E_sl_p_wal_segment (by omega) (by omega) hnc fun a' n' c' => ⟨_, _, _, rfl, br_false rfl ?_⟩
  refine hwp_sliceSl (lo := none) (hi := some (.int .i64 0)) E_sl_p_wal_segment trivial trivial (by simp [bnd]) (by simp [bnd]) (by simp [bnd]) ⟨_, _, _, rfl, ?_⟩
  have e1 : (if (c : Int) = bnd none 0 then some (⟨b, off, none⟩ : Addr) else (some (⟨b, off, none⟩ : Addr)).map (·.add ((bnd none 0).toNat * 1))) = some ⟨b, off, none⟩ := by
    split
    · rfl
    · simp [bnd, Addr.add]
  rw [e1]
  refine hwp_sliceSl (lo := some (.int .i64 1)) (hi := none) E_sl_p_wal_segment trivial trivial (by simp [bnd]) (by simp [bnd]; omega) (by simp [bnd]; omega) ⟨_, _, _, rfl, ?_⟩
  have e2 : (bnd none (((n + 1 : Nat) : Int))).toNat - (bnd (some (Value.int .i64 1)) 0).toNat = n := by simp [bnd]
  have e3 : (bnd (some (Value.int .i64 0)) (((n + 1 : Nat) : Int))).toNat - (bnd none 0).toNat = 0 := by simp [bnd]
  have e4 : c - (bnd none 0).toNat = c := by simp [bnd]
  rw [e2, e3, e4]
  have hys : ∀ i, i < n → ys[off + 1 + i]? = rest[i]? := by
    intro i hi
    have := congrArg (fun l => l[i + 1]?) hx1
    simp only [List.getElem?_cons_succ] at this
    rw [this, List.getElem?_take_of_lt (by omega), List.getElem?_drop]
    congr 1; omega
  generalize hA : (if (c : Int) = bnd (some (Value.int .i64 1)) 0 then some (⟨b, off, none⟩ : Addr) else (some (⟨b, off, none⟩ : Addr)).map (·.add ((bnd (some (Value.int .i64 1)) 0).toNat * 1))) = a2
  have r2 : Rd h a2 rest := by
    by_cases h0 : n = 0
    · have : rest = [] := List.length_eq_zero_iff.1 (by omega)
      rw [this]; exact Rd.nil _ _
    · rw [if_neg (by simp [bnd]; omega)] at hA
      have : a2 = some ⟨b, off + 1, none⟩ := by rw [← hA]; simp [bnd, Addr.add]
      rw [this]
      refine H1.ptrd ?_
      refine List.ext_getElem? fun i => ?_
      by_cases hi : i < n
      · rw [List.getElem?_take_of_lt (by omega), List.getElem?_drop, hys i hi]
      · rw [List.getElem?_eq_none (by omega), List.getElem?_eq_none (by simp; omega)]
  have h20 : a2 ≠ none := by
    rw [← hA]; split
    · simp
    · simp
  refine app_in (c := c) (m := n) E_sl_p_wal_segment H1 E_sl_p_wal_segment.und rfl hc1 (by omega) (by omega) r2 (fun q => absurd q h20) hv fun h2 H2 => ⟨_, _, _, rfl, ?_⟩
  refine hwp_sliceSl (lo := some (.int .i64 (n : Nat))) (hi := some (.int .i64 ((n + 1 : Nat) : Int))) E_sl_p_wal_segment trivial trivial (by simp [bnd]) (by simp [bnd]; omega) (by simp [bnd]; omega) ⟨_, _, _, rfl, ?_⟩
  rw [if_neg (by simp [bnd]; omega)]
  have e5 : (bnd (some (Value.int .i64 ((n + 1 : Nat) : Int))) (n : Int)).toNat - (bnd (some (Value.int .i64 ((n : Nat) : Int))) 0).toNat = 1 := by simp [bnd]
  have e6 : (some (⟨b, off, none⟩ : Addr)).map (·.add ((bnd (some (Value.int .i64 ((n : Nat) : Int))) 0).toNat * 1)) = some ⟨b, off + n, none⟩ := by simp [bnd, Addr.add]
  rw [e5, e6]
  have hlen : (ys.take off ++ rest ++ ys.drop (off + n)).length = ys.length := by simp; omega
  refine clear_1 E_sl_p_wal_segment rfl rfl H2 (by rw [hlen]; omega) fun h3 H3 => kk h3 ?_
  refine H3.pt_own off ?_ (by omega) (by omega) (by simp; omega)
  rw [Nat.mul_one]
  refine List.ext_getElem? fun i => ?_
  by_cases hi : i < n
  · rw [List.getElem?_take_of_lt hi, List.getElem?_drop, List.append_assoc, List.getElem?_append_left (by simp; omega), List.getElem?_take_of_lt (by omega), List.append_assoc, List.getElem?_append_right (by simp; omega), List.getElem?_append_left (by simp; omega)]
    congr 1; simp; omega
  · rw [List.getElem?_eq_none (by omega), List.getElem?_eq_none (by simp; omega)]
end Go.Proofs.YtjihchpobpgpeaaGreatDoor

set_option maxRecDepth 20000
set_option linter.unusedVariables false
set_option linter.unusedSimpArgs false
namespace Go.Proofs.YtjihchpobpgpeaaGreatDoor
open Go Go.HW
variable {h : Heap} {L : List Assn} {Q : Value → Heap → Prop} {q p : Nat} {d : DS} {l : LS}
theorem WCutNo_hs {n : Nat} (hl : LI l) (hn : l.last < n) (H : Hs h (logA q p d l :: L)) (k : Q (.int .i64 101) h) : SpecH PP F_wal_Log_Cut [.pointer (some ⟨q, 0, none⟩), .int .i64 (n : Nat)] h Q := by
  refine wal_Log_Cut.door (br_false rfl (br_false (by simp) (Last_hs hl H ⟨_, rfl, wal_Log_Cut.J1_of (br_true (by simp; omega) k)⟩)))
theorem wcut_pre {xs : List Seg} {s : Seg} (hl : LI l) (es : l.segs = xs ++ [s]) (H : Hs h (logA q p d l :: L))
    (k : wal_Log_Cut.J2 (some ⟨q, 0, none⟩) (l.last : Nat) (decide (((s.next : Nat) : Int) > ((s.first : Nat) : Int))) Q h) : SpecH PP F_wal_Log_Cut [.pointer (some ⟨q, 0, none⟩), .int .i64 (l.last : Nat)] h Q := by
  have el : l.segs.length = xs.length + 1 := by rw [es]; simp
  have hll := hl.len
  obtain ⟨sg, b, a, c, e, H4⟩ := (logA_last es).1 H
  have hsl : sg.length = xs.length := by rw [← e, List.length_map]
  have ew2 : IntKind.i64.wrap (((l.segs.length : Nat) : Int) - 1) = ((xs.length : Nat) : Int) := by rw [wrap_i64_z (by omega) (by omega)]; omega
  have hg : ((sg.map fun x : Nat × Seg => ptrV x.1) ++ [ptrV b])[(((xs.length : Nat) : Int)).toNat]? = some (ptrV b) := by rw [Int.toNat_natCast, List.getElem?_append_right (by simp [hsl])]; simp [hsl]
  refine wal_Log_Cut.door (br_false rfl (br_false (by simp) (Last_hs hl H ⟨_, rfl, wal_Log_Cut.J1_of (br_false (by simp) ⟨_, _, _, H4.cell (off := 1) rfl, ?_⟩)⟩)))
  refine Last_hs hl H ⟨_, rfl, br_true (by simp) ⟨_, _, _, H4.cell (off := 1) rfl, ?_⟩⟩
  rw [ew2]
  refine idx E_sl_p_wal_segment (v := ptrV b) H4.m1.rd (by omega) (by omega) hg fun t1 ht => ⟨_, ht, _, H4.m2.cell (off := 2) rfl, _, _, _, H4.cell (off := 1) rfl, ?_⟩
  refine idx E_sl_p_wal_segment (v := ptrV b) H4.m1.rd (by omega) (by omega) hg fun t1 ht => ⟨_, ht, _, H4.m2.cell (off := 1) rfl, ?_⟩
  exact k
/-- How many are gone is counted. -/
theorem gone_loop {n : Nat} {ys : List Seg} {s : Seg} (hl : LI l) (es : l.segs = ys ++ [s]) (hn : n < 2 ^ 40) (hall : ∀ x ∈ ys, x.next ≤ n + 1) (H : Hs h (logA q p d l :: L)) {K : Ex → Fr → Heap → Prop}
    (kk : K (.exit 1) (wal_Log_Cut.X1 (some ⟨q, 0, none⟩) (ys.length : Nat)) h) : ∀ (r i : Nat), i + r = ys.length → wal_Log_Cut.L1 (some ⟨q, 0, none⟩) (n : Nat) (i : Nat) K h := by
  have el : l.segs.length = ys.length + 1 := by rw [es]; simp
  have hll := hl.len
  obtain ⟨sg, a, c, e, H4⟩ := logA_open.1 H
  have hsl := sg_len e
  have ew2 : IntKind.i64.wrap (((l.segs.length : Nat) : Int) - 1) = ((ys.length : Nat) : Int) := by rw [wrap_i64_z (by omega) (by omega)]; omega
  have ew3 : IntKind.i64.wrap (((n : Nat) : Int) + 1) = ((n + 1 : Nat) : Int) := by rw [wrap_i64_z (by omega) (by omega)]; omega
  intro r
  induction r with
  | zero =>
    intro i hi
    refine wal_Log_Cut.L1_of ⟨_, _, _, H4.cell (off := 1) rfl, ?_⟩
    rw [ew2]
    refine br_false (by simp; omega) ?_
    have : i = ys.length := by omega
    rw [this]; exact kk
  | succ r ih =>
    intro i hi
    refine wal_Log_Cut.L1_of ⟨_, _, _, H4.cell (off := 1) rfl, ?_⟩
    rw [ew2]
    refine br_true (by simp; omega) ⟨_, _, _, H4.cell (off := 1) rfl, ?_⟩
    have his : i < sg.length := by omega
    refine sg_idx (i := i) H4.m1.rd l.segs.length (by omega) his rfl fun t ht => ⟨_, ht, ?_⟩
    have H2 := seg_at his H4.m2
    have hget : l.segs[i]? = some sg[i].2 := by rw [← e, List.getElem?_map, List.getElem?_eq_getElem his]; rfl
    have hm : sg[i].2 ∈ ys := by
      rw [es, List.getElem?_append_left (by omega)] at hget
      exact List.mem_of_getElem? hget
    have := hall _ hm
    refine ⟨_, H2.cell (off := 2) rfl, ?_⟩
    rw [ew3]
    refine br_true (by simp; omega) ?_
    have ew4 : IntKind.i64.wrap (((i : Nat) : Int) + 1) = ((i + 1 : Nat) : Int) := by rw [wrap_i64_z (by omega) (by omega)]; omega
    rw [ew4]
    exact ih (i + 1) (by omega)
def rems (d : DS) (ns : List Nm) : DS := ns.foldl (fun d n => (d.remove n).1) d
theorem remove_ok {n : Nm} {d : DS} (h : d.left = none) (hf : (d.find n).isSome) : (d.remove n).2 = 0 := by
  unfold DS.remove
  rw [if_neg (by rw [down_none h]; simp)]
  obtain ⟨i, e⟩ := Option.isSome_iff_exists.1 hf
  rw [e]
theorem remove_left {n : Nm} {d : DS} (h : d.left = none) : (d.remove n).1.left = none := by
  unfold DS.remove; split; exact h; split; exact h; simp [DS.change, DS.tick, h]
theorem remove_find {n m : Nm} {d : DS} (hd : DI d) (h : m ≠ n) : (d.remove n).1.find m = d.find m := by
  unfold DS.remove
  split
  · rfl
  split
  · rfl
  · rename_i i e
    have hne := hd.find_ne e
    show mget (ap d.now ⟨n, e0, 0⟩) m = mget d.now m
    unfold ap
    dsimp only
    rw [if_neg hne, if_pos rfl, mget_mdel, if_neg (fun q => h q.symm)]
/-- Those that are gone are removed. -/
theorem rem_loop {g : Nat} {nw : Seg} (hg : g < 2 ^ 20) : ∀ (todo : List Seg) {h : Heap} {d : DS} {l : LS} (i : Nat), LI l → l.segs = todo ++ [nw] → DI d → d.left = none → d.steps + todo.length + 4 < 2 ^ 38 → (∀ s ∈ todo, (d.find s.name).isSome) → (todo.map (·.name)).Nodup →
    i + todo.length = g → Hs h (logA q p d l :: L) →
    (∀ h' nm, (l.names = true ∨ todo ≠ [] → nm = true) → Hs h' (logA q p (rems d (todo.map (·.name))) ⟨[nw], l.synced, nm, l.file⟩ :: L) → Q (.int .i64 0) h') →
    wal_Log_Cut.L2 (some ⟨q, 0, none⟩) (g : Nat) (i : Nat) (wal_Log_Cut.K6 Q) h
  | [], h, d, l, i, hl, es, hd, hup, hb, hf, hnd, hi, H, kk => by
    refine wal_Log_Cut.L2_of (br_false (by simp at hi ⊢; omega) (wal_Log_Cut.L2_X3 (kk h l.names (fun q => q.elim id (fun q => absurd rfl q)) ?_)))
    have e : l = ⟨[nw], l.synced, l.names, l.file⟩ := by
      obtain ⟨a, b, c, d⟩ := l
      have : a = [nw] := es
      subst this; rfl
    rw [e] at H; exact H
  | s :: todo, h, d, l, i, hl, es, hd, hup, hb, hf, hnd, hi, H, kk => by
    rw [List.length_cons] at hi hb
    have el : l.segs.length = (todo ++ [nw]).length + 1 := by rw [es]; simp
    have hll := hl.len
    obtain ⟨sg, a, c, e, H4⟩ := logA_open.1 H
    rw [es] at e
    obtain ⟨⟨b, s'⟩, sg', rfl⟩ : ∃ x sg', sg = x :: sg' := by
      cases sg with
      | nil => cases e
      | cons x sg' => exact ⟨x, sg', rfl⟩
    rw [List.map_cons, List.cons_append, List.cons.injEq] at e
    obtain ⟨e1, e2⟩ := e
    have e1 : s' = s := e1
    subst e1
    rw [el, List.map_cons] at H4
    have hsl : sg'.length = (todo ++ [nw]).length := by rw [← e2, List.length_map]
    refine wal_Log_Cut.L2_of (br_true (by simp; omega) ?_)
    refine H4.sto (off := 3) (by simp [lgV]) fun h1 H1 => ⟨_, H1.cell (off := 0) rfl, _, _, _, H1.cell (off := 1) rfl, ?_⟩
    refine idx E_sl_p_wal_segment (v := ptrV b) H1.m1.rd (by omega) (by omega) rfl fun t1 ht => ⟨_, ht, ?_⟩
    have H2 : Hs h1 (pt b T_wal_segment (sgV s') :: Sp (sg'.map sgB) :: pt q T_wal_Log ((lgV p l a c).set 3 (.bool true)) :: own a ((todo ++ [nw]).length + 1) c T_p_wal_segment 1 (ptrV b :: sg'.map fun x : Nat × Seg => ptrV x.1) :: diskA p d :: L) :=
      (sp_mid (x := []) (y := (b, s')) (z := sg')).1 (H1.sel 3 [2, 0, 1])
    refine ⟨_, H2.cell (off := 0) rfl, ?_⟩
    refine Remove_hs hd (by omega) (H2.sel 5 [4, 0, 1, 2, 3]) fun h3 H3 => ⟨_, rfl, ?_⟩
    have hfs := hf s' (List.mem_cons_self ..)
    rw [remove_ok hup hfs]
    have H5 := H3.sel 5 [3, 4, 2, 0]
    refine br_false rfl ⟨_, _, _, H5.cell (off := 1) rfl, ?_⟩
    rw [el]
    refine Delete_hs H5.m1 (fun v hv => by obtain ⟨x, _, rfl⟩ := List.mem_map.1 hv; rfl) fun h6 H6 => ⟨_, _, _, rfl, ?_⟩
    refine H6.m1.sto (off := 1) (by simp [lgV]) fun h7 H7 => ?_
    have ew4 : IntKind.i64.wrap (((i : Nat) : Int) + 1) = ((i + 1 : Nat) : Int) := by rw [wrap_i64_z (by omega) (by omega)]; omega
    dsimp only
    rw [ew4]
    rw [List.map_cons, List.nodup_cons] at hnd
    have hl2 : LI ⟨todo ++ [nw], l.synced, true, l.file⟩ := ⟨fun x hx => hl.seg x (by rw [es]; exact List.mem_cons_of_mem _ hx), by show (todo ++ [nw]).length < _; omega, hl.file⟩
    have hst := remove_steps (d := d) s'.name
    refine rem_loop hg todo (d := (d.remove s'.name).1) (l := ⟨todo ++ [nw], l.synced, true, l.file⟩) (i + 1) hl2 rfl (hd.remove _) (remove_left hup) (by omega) (fun x hx => ?_) hnd.2 (by omega) (logA_open.2 ⟨sg', a, c, e2, ?_⟩) fun h' nm hnm H' => kk h' nm (fun _ => hnm (.inl rfl)) H'
    · rw [remove_find hd (fun q => hnd.1 (by rw [← q]; exact List.mem_map_of_mem (f := fun s : Seg => s.name) hx))]
      exact hf x (List.mem_cons_of_mem _ hx)
    · have e3 : ((lgV p l a c).set 3 (.bool true)).set 1 (.slice a (todo ++ [nw]).length c) = lgV p ⟨todo ++ [nw], l.synced, true, l.file⟩ a c := by simp [lgV]
      rw [e3] at H7
      exact H7
/-- Nothing to cut. -/
theorem WCut0_hs {s : Seg} (hl : LI l) (es : l.segs = [s]) (hs : s.next = s.first) (H : Hs h (logA q p d l :: L)) (k : Q (.int .i64 0) h) : SpecH PP F_wal_Log_Cut [.pointer (some ⟨q, 0, none⟩), .int .i64 (l.last : Nat)] h Q := by
  refine wcut_pre (xs := []) hl es H ?_
  rw [hs]
  refine wal_Log_Cut.J2_of (br_false (by simp) (wal_Log_Cut.J3_of ?_))
  exact gone_loop (ys := []) hl es (by have := hl.last; omega) nofun H (wal_Log_Cut.L1_X1 (br_true rfl k)) 0 0 rfl
theorem find_create {d : DS} (hd : DI d) {n m : Nm} (h : d.find m ≠ none) : ((d.create n).1.find m) = d.find m := by
  unfold DS.create
  split
  · rfl
  split
  · rfl
  split
  · rfl
  split
  · rfl
  rename_i h1 h2 h3 h4
  have hg : good n = true := by simpa using h2
  have hne : n ≠ e0 := by unfold good at hg; simp at hg; exact hg.1.2
  show mget (ap d.now ⟨e0, n, d.files.length⟩) m = mget d.now m
  rw [ap_new hd.keys hne, if_neg]
  intro q
  subst q
  exact h3 (Option.isSome_iff_ne_none.2 h)
theorem find_append {d : DS} {n m : Nm} {b : List Nat} : ((d.append n b).1.find m) = d.find m := by
  unfold DS.append; split; rfl; split; rfl; split <;> rfl
theorem create_left {d : DS} {n : Nm} (h : d.left = none) : (d.create n).1.left = none := by
  unfold DS.create; split; exact h; split; exact h; split; exact h; split; exact h; simp [DS.change, DS.tick, h]
theorem append_left {d : DS} {n : Nm} {b : List Nat} (h : d.left = none) : (d.append n b).1.left = none := by
  unfold DS.append; split; exact h; split; exact h; split; exact h; simp [DS.tick, h]
/-- The disk with a new segment; what is left of it when all before is cut. -/
def bgD (d : DS) (l : LS) (f : Nat) : DS := ((d.create (segName l.file)).1.append (segName l.file) (headB f)).1
def bgL (l : LS) (f : Nat) : LS := ⟨l.segs ++ [⟨segName l.file, f, f, 16, true⟩], l.synced, true, l.file + 1⟩
def cutD (d : DS) (l : LS) (f : Nat) : DS := rems (safeD (bgD d l f) (bgL l f)) (l.segs.map (·.name))
theorem safeD_all {d : DS} {l : LS} (hd : DI d) (hup : d.left = none) : DI (safeD d l) ∧ (safeD d l).left = none ∧ (∀ n, (safeD d l).find n = d.find n) ∧ (safeD d l).steps ≤ d.steps + l.segs.length + 1 := by
  obtain ⟨h1, h2, h3, h4⟩ := syncs_all l.segs hd hup
  unfold safeD
  split
  · have hs := syncdir_steps (d := syncs d l.segs)
    refine ⟨h1.syncdir, ?_, fun n => ?_, by omega⟩
    · unfold DS.syncdir; rw [if_neg (by rw [down_none h2]; simp)]; simp [DS.tick, h2]
    · rw [← h3 n]; unfold DS.syncdir; rw [if_neg (by rw [down_none h2]; simp)]; rfl
  · exact ⟨h1, h2, h3, by omega⟩
theorem WCut_hs {xs : List Seg} {s : Seg} (t : TabL L) (tp : PTabL L) (hd : DI d) (hup : d.left = none) (hb : d.steps + 3000 < 2 ^ 38) (hl : LI l) (es : l.segs = xs ++ [s]) (hs : s.first < s.next) (hall : ∀ x ∈ l.segs, x.next ≤ s.next) (hfile : l.file < 100) (hlen : l.segs.length < 900)
    (hf : ∀ x ∈ l.segs, (d.find x.name).isSome) (hnd : (l.segs.map (·.name)).Nodup)
    (h1 : (d.create (segName l.file)).2 = 0) (h2 : ((d.create (segName l.file)).1.append (segName l.file) (headB s.next)).2 = 0) (h3 : ((bgD d l s.next).find (segName l.file)).isSome) (H : Hs h (logA q p d l :: L))
    (kk : ∀ h', Hs h' (logA q p (cutD d l s.next) ⟨[⟨segName l.file, s.next, s.next, 16, false⟩], l.last, true, l.file + 1⟩ :: L) → Q (.int .i64 0) h') :
    SpecH PP F_wal_Log_Cut [.pointer (some ⟨q, 0, none⟩), .int .i64 (l.last : Nat)] h Q := by
  have hsb := hl.seg s (by rw [es]; simp)
  have el : l.segs.length = xs.length + 1 := by rw [es]; simp
  refine wcut_pre hl es H (wal_Log_Cut.J2_of (br_true (by simp; omega) ?_))
  have hla := last_snoc es
  have ew : IntKind.i64.wrap (((l.last : Nat) : Int) + 1) = ((s.next : Nat) : Int) := by rw [hla, wrap_i64_z (by omega) (by omega)]; omega
  dsimp only
  rw [ew]
  refine begin_hs t tp hd (by omega) hl (by omega) hfile h1 h2 H fun h5 H5 => ⟨_, rfl, br_false rfl (wal_Log_Cut.J3_of ?_)⟩
  have hl2 : LI (bgL l s.next) := hl.begin ⟨hsb.1, by omega⟩ (by omega) (by omega)
  have hd2 : DI (bgD d l s.next) := (hd.create _).append _ _
  have hup2 : (bgD d l s.next).left = none := append_left (create_left hup)
  have hst2 : (bgD d l s.next).steps ≤ d.steps + 2 := by
    have := create_steps (d := d) (segName l.file)
    have := append_steps (d := (d.create (segName l.file)).1) (segName l.file) (headB s.next)
    unfold bgD; omega
  have H5 : Hs h5 (logA q p (bgD d l s.next) (bgL l s.next) :: L) := H5
  have hfa : ∀ x ∈ (bgL l s.next).segs, ((bgD d l s.next).find x.name).isSome := fun x hx => by
    rcases List.mem_append.1 hx with q | q
    · have := hf x q
      unfold bgD
      rw [find_append, find_create hd (Option.isSome_iff_ne_none.1 this)]
      exact this
    · rw [List.mem_singleton.1 q]; exact h3
  refine gone_loop (n := l.last) (ys := l.segs) hl2 rfl (by have := hl.last; omega) (fun x hx => by have := hall x hx; omega) H5 (wal_Log_Cut.L1_X1 (br_false (by rw [beq_eq_false_iff_ne]; omega) ?_)) l.segs.length 0 (by omega)
  have hbl : (bgL l s.next).segs.length = l.segs.length + 1 := by unfold bgL; simp
  refine WSync_hs hd2 hup2 (by omega) hl2 hfa H5 fun h6 H6 => ⟨_, rfl, br_false rfl ?_⟩
  obtain ⟨hd3, hup3, hf3, hs3⟩ := safeD_all (l := bgL l s.next) hd2 hup2
  have em : (bgL l s.next).segs.map clean = l.segs.map clean ++ [⟨segName l.file, s.next, s.next, 16, false⟩] := by unfold bgL; simp [clean]
  rw [em] at H6
  have en : (l.segs.map clean).map (·.name) = l.segs.map (·.name) := by rw [List.map_map]; rfl
  have hl3 : LI ⟨l.segs.map clean ++ [⟨segName l.file, s.next, s.next, 16, false⟩], (bgL l s.next).last, false, (bgL l s.next).file⟩ := by
    have := hl2.clean (sy := (bgL l s.next).last) (nm := false)
    rw [em] at this; exact this
  have hbt : (bgL l s.next).last = l.last := by rw [last_snoc (l := bgL l s.next) (xs := l.segs) rfl, hla]
  refine rem_loop (nw := ⟨segName l.file, s.next, s.next, 16, false⟩) (by omega) (l.segs.map clean) 0 hl3 rfl hd3 hup3 (by simp; omega) (fun x hx => ?_) (by rw [en]; exact hnd) (by simp) H6 fun h' nm hnm H' => ?_
  · obtain ⟨y, hy, rfl⟩ := List.mem_map.1 hx
    rw [hf3]
    exact hfa y (List.mem_append_left _ hy)
  · have hnm : nm = true := hnm (.inr (by intro q; have := congrArg List.length q; simp at this; rw [this] at el; simp at el))
    subst hnm
    rw [en] at H'
    have H' : Hs h' (logA q p (cutD d l s.next) ⟨[⟨segName l.file, s.next, s.next, 16, false⟩], (bgL l s.next).last, true, l.file + 1⟩ :: L) := H'
    rw [hbt] at H'
    exact kk h' H'
end Go.Proofs.YtjihchpobpgpeaaGreatDoor

set_option maxRecDepth 20000
set_option linter.unusedVariables false
set_option linter.unusedSimpArgs false
namespace Go.Proofs.YtjihchpobpgpeaaGreatDoor
open Go Go.HW Go.HW.Dec
variable {h : Heap} {L : List Assn} {Q : Value → Heap → Prop} {q p : Nat} {d : DS} {l : LS}
theorem pre_seg : ∀ i : Fin 100, Lib.hasPrefix (segName i).data.toList [108, 111, 103, 46] = true := by decide +kernel
theorem num_seg : ∀ i : Fin 100, ((segName i).extract 4 10).size = 6 ∧ Lib.atoi ((segName i).extract 4 10).data.toList = some (((i : Nat) + 1 : Nat) : Int) := by decide +kernel
theorem Prefix_hs {i : Nat} (hi : i < 100) (H : Hs h L) (kk : ∀ h', Hs h' L → Q (.bool true) h') : SpecH PP F_strings_HasPrefix [.string (segName i), .string (⟨#[108, 111, 103, 46]⟩ : ByteArray)] h Q :=
  of_below fun w hw => (Tryz.strings_HasPrefix (segName i) ⟨#[108, 111, 103, 46]⟩ w).mono fun e w' ⟨he, hw'⟩ => ⟨_, he, hw' ▸ RowKit.Below.refl _ _, fun x => by
    rw [pre_seg ⟨i, hi⟩]
    exact kk _ (H.ext x.toExt)⟩
theorem Atoi_hs {i : Nat} (hi : i < 100) (H : Hs h L) (kk : ∀ h', Hs h' L → Q (.tuple #[.int .i64 ((i + 1 : Nat) : Int), .nilIface]) h') : SpecH PP F_strconv_Atoi [.string ((segName i).extract 4 10)] h Q :=
  of_below fun w hw => (Tryz.strconv_Atoi ((segName i).extract 4 10) ((i + 1 : Nat) : Int) (by rw [(num_seg ⟨i, hi⟩).1]; decide) (num_seg ⟨i, hi⟩).2 w).mono fun e w' ⟨he, t, hw'⟩ => ⟨_, he, by rw [hw']; exact below_bytes _ _ _, fun x => kk _ (H.ext x.toExt)⟩
theorem nm_only {nm : Bool} : (⟨l.segs, l.synced, nm, l.file⟩ : LS).last = l.last := rfl
theorem LI.nm (hl : LI l) (sy : Nat) (nm : Bool) : LI ⟨l.segs, sy, nm, l.file⟩ := ⟨hl.seg, hl.len, hl.file⟩
theorem setNames (H : Hs h (logA q p d l :: L)) (nm : Bool) {K : Heap → Prop} (kk : ∀ h', Hs h' (logA q p d ⟨l.segs, l.synced, nm, l.file⟩ :: L) → K h') : wr ⟨q, 3, none⟩ (.bool nm) K h := by
  obtain ⟨sg, a, c, e, H0⟩ := logA_open.1 H
  refine H0.sto (off := 3) (by simp [lgV]) fun h1 H1 => kk h1 (logA_open.2 ⟨sg, a, c, e, H1⟩)
theorem setSynced (H : Hs h (logA q p d l :: L)) (n : Nat) {K : Heap → Prop} (kk : ∀ h', Hs h' (logA q p d ⟨l.segs, n, l.names, l.file⟩ :: L) → K h') : wr ⟨q, 2, none⟩ (.int .i64 (n : Nat)) K h := by
  obtain ⟨sg, a, c, e, H0⟩ := logA_open.1 H
  refine H0.sto (off := 2) (by simp [lgV]) fun h1 H1 => kk h1 (logA_open.2 ⟨sg, a, c, e, H1⟩)
theorem settle1_hs {b : OA} {m c : Nat} (hd : DI d) (hup : d.left = none) (hb : d.steps + l.segs.length + 8 < 2 ^ 38) (hl : LI l) (hf : ∀ s ∈ l.segs, (d.find s.name).isSome) (H : Hs h (logA q p d l :: L))
    (kk : ∀ h', Hs h' (logA q p (safeD d ⟨l.segs, l.synced, true, l.file⟩) ⟨l.segs.map clean, l.last, false, l.file⟩ :: L) → Q (.int .i64 0) h') : SpecH PP F_wal_Log_settle [.pointer (some ⟨q, 0, none⟩), .slice none 0 0, .slice b m c, .bool true] h Q := by
  refine wal_Log_settle.door (setNames H true fun h1 H1 => wal_Log_settle.L1_of (br_false rfl (wal_Log_settle.L1_X0 ?_)))
  refine WSync_hs (l := ⟨l.segs, l.synced, true, l.file⟩) hd hup hb (hl.nm l.synced true) hf H1 fun h2 H2 => ⟨_, rfl, br_false rfl (br_true rfl (kk h2 H2))⟩
abbrev l00 : LS := ⟨[], 0, true, 0⟩
abbrev l01 : LS := ⟨[], 0, false, 0⟩
/-- The disk of a fresh log. -/
def openD (d : DS) : DS := safeD (bgD (safeD d l00) l01 1) (bgL l01 1)
theorem settle0_hs (t : TabL L) (tp : PTabL L) (hd : DI d) (hup : d.left = none) (hb : d.steps + 100 < 2 ^ 38)
    (h1 : ((safeD d l00).create (segName 0)).2 = 0) (h2 : (((safeD d l00).create (segName 0)).1.append (segName 0) (headB 1)).2 = 0) (h3 : ((bgD (safeD d l00) l01 1).find (segName 0)).isSome) (H : Hs h (logA q p d l01 :: L))
    (kk : ∀ h', Hs h' (logA q p (openD d) ⟨[⟨segName 0, 1, 1, 16, false⟩], 0, false, 1⟩ :: L) → Q (.int .i64 0) h') : SpecH PP F_wal_Log_settle [.pointer (some ⟨q, 0, none⟩), .slice none 0 0, .slice none 0 0, .bool false] h Q := by
  have hl0 : LI l00 := ⟨nofun, by decide, by decide⟩
  have hl1 : LI l01 := ⟨nofun, by decide, by decide⟩
  refine wal_Log_settle.door (setNames H true fun h4 H4 => wal_Log_settle.L1_of (br_false rfl (wal_Log_settle.L1_X0 ?_)))
  refine WSync_hs (l := l00) hd hup (by show d.steps + 0 + 8 < _; omega) hl0 nofun H4 fun h5 H5 => ⟨_, rfl, br_false rfl (br_false rfl ?_)⟩
  have H5 : Hs h5 (logA q p (safeD d l00) l01 :: L) := H5
  obtain ⟨hd1, hup1, hf1, hs1⟩ := safeD_all (l := l00) hd hup
  have hs1 : (safeD d l00).steps ≤ d.steps + 0 + 1 := hs1
  refine Last_hs hl1 H5 ⟨_, rfl, ?_⟩
  obtain ⟨sg, a, c, e, H6⟩ := logA_open.1 H5
  refine ⟨_, _, _, H6.cell (off := 1) rfl, br_false rfl (wal_Log_settle.J1_of (br_false rfl (wal_Log_settle.J2_of ?_)))⟩
  have hc := create_steps (d := safeD d l00) (segName 0)
  have ha := append_steps (d := ((safeD d l00).create (segName 0)).1) (segName 0) (headB 1)
  refine begin_hs (f := 1) t tp hd1 (by omega) hl1 (by decide) (by decide) h1 h2 H5 fun h7 H7 => ⟨_, rfl, br_false rfl ?_⟩
  have H7 : Hs h7 (logA q p (bgD (safeD d l00) l01 1) (bgL l01 1) :: L) := H7
  have hd2 : DI (bgD (safeD d l00) l01 1) := (hd1.create _).append _ _
  have hup2 : (bgD (safeD d l00) l01 1).left = none := append_left (create_left hup1)
  have hst2 : (bgD (safeD d l00) l01 1).steps ≤ d.steps + 3 := by show (((safeD d l00).create (segName 0)).1.append (segName 0) (headB 1)).1.steps ≤ _; omega
  have hl2 : LI (bgL l01 1) := hl1.begin (by decide) (by decide) (by decide)
  refine wal_Log_settle.L2_of (br_false rfl (wal_Log_settle.L2_X2 ?_))
  refine WSync_hs (l := bgL l01 1) hd2 hup2 (by show _ + 1 + 8 < _; omega) hl2 (fun s hs => ?_) H7 fun h8 H8 => ⟨_, rfl, br_false rfl (wal_Log_settle.J3_of (br_true rfl (kk h8 H8)))⟩
  have : s = ⟨segName 0, 1, 1, 16, true⟩ := by simpa [bgL] using hs
  subst this
  exact h3
theorem WOpen0_hs (t : TabL L) (tp : PTabL L) (hd : DI d) (hup : d.left = none) (hb : d.steps + 100 < 2 ^ 38) (hn : d.names = [])
    (h1 : ((safeD d l00).create (segName 0)).2 = 0) (h2 : (((safeD d l00).create (segName 0)).1.append (segName 0) (headB 1)).2 = 0) (h3 : ((bgD (safeD d l00) l01 1).find (segName 0)).isSome) (H : Hs h (diskA p d :: L))
    (kk : ∀ h' q, Hs h' (logA q p (openD d) ⟨[⟨segName 0, 1, 1, 16, false⟩], 0, false, 1⟩ :: L) → Q (.tuple #[.pointer (some ⟨q, 0, none⟩), .slice none 0 0, .int .i64 0]) h') : SpecH PP F_wal_Open [.pointer (some ⟨p, 0, none⟩)] h Q := by
  refine wal_Open.door (br_false rfl (DDown_hs H ⟨_, rfl, ?_⟩))
  rw [down_none hup]
  refine br_false rfl ?_
  dsimp only
  have H1 := H.new (t := T_wal_Log) (cs := #[(.pointer (some ⟨p, 0, none⟩)), (.slice none 0 0), (.int .i64 0), (.bool false), (.int .i64 0)]) (xs := lgV p l01 none 0)
  generalize Array.size h = q at H1 ⊢
  generalize Array.push h _ = g2 at H1 ⊢
  refine Names_hs hd (by omega) H1.m1 fun g3 a3 c3 H3 => ⟨_, _, _, rfl, ?_⟩
  rw [hn] at H3 ⊢
  refine wal_Open.L1_of (br_false rfl (wal_Open.L1_X1 ?_))
  have H4 : Hs g3 (logA q p d l01 :: L) := logA_open.2 ⟨[], none, 0, rfl, ((H3.sel 3 [2, 1]).own_nil T_p_wal_segment 1).sel 3 [1, 0, 2] |> fun K => by
    have K2 : Hs g3 (Sp ([].map sgB) :: pt q T_wal_Log (lgV p l01 none 0) :: own none 0 0 T_p_wal_segment 1 [] :: diskA p d :: L) := Hs.app.2 K
    exact K2.sel 4 [1, 2, 0, 3]⟩
  refine settle0_hs t tp hd hup hb h1 h2 h3 H4 fun h5 H5 => ⟨_, rfl, br_false rfl ?_⟩
  have hl : LI ⟨[⟨segName 0, 1, 1, 16, false⟩], 0, false, 1⟩ := ⟨fun s hs => by rw [List.mem_singleton.1 hs]; decide, by decide, by decide⟩
  refine Last_hs hl H5 ⟨_, rfl, setSynced H5 0 fun h6 H6 => kk h6 q H6⟩
theorem WOpen1_hs {k f : Nat} {ds : List Nm} (t : TabL L) (hd : DI d) (hup : d.left = none) (hb : d.steps + 100 < 2 ^ 38) (hk : k < 99) (hf : 1 ≤ f) (hds : ∀ x ∈ ds, x.size ≤ 65536) (hfd : f + ds.length < 2 ^ 30) (hn : d.names = [segName k])
    (hr : d.read (segName k) = (headB f ++ body f ds, 0)) (hlen : (headB f ++ body f ds).length < 2 ^ 30) (hfi : (d.find (segName k)).isSome) (H : Hs h (diskA p d :: L))
    (kk : ∀ h' q a c, Hs h' (own a ds.length c T_api_Record 2 ((rcs f ds).flatMap rcV) :: logA q p (safeD d ⟨[⟨segName k, f, f + ds.length, (headB f ++ body f ds).length, true⟩], 0, true, k + 1⟩) ⟨[⟨segName k, f, f + ds.length, (headB f ++ body f ds).length, false⟩], f + ds.length - 1, false, k + 1⟩ :: L) →
      Q (.tuple #[.pointer (some ⟨q, 0, none⟩), .slice a ds.length c, .int .i64 0]) h') : SpecH PP F_wal_Open [.pointer (some ⟨p, 0, none⟩)] h Q := by
  refine wal_Open.door (br_false rfl (DDown_hs H ⟨_, rfl, ?_⟩))
  rw [down_none hup]
  refine br_false rfl ?_
  dsimp only
  have H1 := H.new (t := T_wal_Log) (cs := #[(.pointer (some ⟨p, 0, none⟩)), (.slice none 0 0), (.int .i64 0), (.bool false), (.int .i64 0)]) (xs := lgV p l01 none 0)
  generalize Array.size h = q at H1 ⊢
  generalize Array.push h _ = g2 at H1 ⊢
  refine Names_hs hd (by omega) H1.m1 fun g3 a3 c3 H3 => ⟨_, _, _, rfl, ?_⟩
  rw [hn] at H3 ⊢
  refine wal_Open.L1_of (br_true rfl ?_)
  refine idx E_sl_string (v := .string (segName k)) H3.rd (by decide) (by simp) rfl fun t1 ht => ⟨_, ht, ?_⟩
  refine Prefix_hs (by omega) H3 fun h4 H4 => ⟨_, rfl, br_false rfl ?_⟩
  have hsz := seg_size (i := k) (by omega)
  refine hwp_ssub (lo := some (.int .i64 4)) (hi := none) U_string trivial trivial (by simp [bnd]) (by show (4 : Int) ≤ _; rw [hsz]; decide) (by simp [bnd]) ⟨_, rfl, ?_⟩
  rw [show (bnd (some (Value.int .i64 4)) 0).toNat = 4 from rfl, show (bnd none (((segName k).size : Nat) : Int)).toNat = 10 by rw [hsz]; rfl]
  have e1 : runPure PP (do eqGuard .eql T_error (.tmp 44) (.const .nilIface) .nilIface .nilIface; Go.binOp .eql T_error .nilIface .nilIface) = some (.bool true) := by kernel_rfl
  refine Atoi_hs (by omega) H4 fun h5 H5 => ⟨_, _, rfl, hwp_runPure e1 ⟨_, rfl, br_true rfl ?_⟩⟩
  have H5 := H5.sel 3 [2, 0, 1]
  refine ⟨_, H5.cell (off := 4) rfl, ?_⟩
  rw [if_pos (by show (((0 : Nat) : Int)) < _; omega)]
  refine H5.sto (off := 4) (by simp [lgV]) fun h6 H6 => wal_Open.J2_of ?_
  refine Read_hs hd (n := segName k) (H6.sel 3 [2, 0, 1]) fun h7 a7 c7 H7 => ⟨_, _, _, _, rfl, ?_⟩
  rw [hr] at H7 ⊢
  dsimp only at H7 ⊢
  have hf2 : f < 2 ^ 62 := by omega
  have c70 : a7 = none → c7 = 0 := fun q => by subst q; exact H7.own_none
  have c7n := H7.own_le
  refine br_false rfl ?_
  refine begins_hs (f := f) (t.cons.cons.cons.cons) hf2 (body_lt ds f) Gv.own rfl c7n (by omega) c70 H7 fun h8 H8 => ⟨_, _, rfl, br_false rfl ?_⟩
  refine ⟨_, _, _, H8.m2.cell (off := 1) rfl, br_false rfl (wal_Open.J3_of (br_false rfl ?_))⟩
  refine records_hs (f := f) (t.cons.cons.cons.cons) hds (by omega) Gv.own rfl c7n (by omega) c70 H8 fun h9 a9 c9 H9 => ⟨_, _, _, _, rfl, ?_⟩
  have rl : (rcs f ds).length = ds.length := rcs_len ds f
  have H10 := H9.own_nil T_api_Record 2
  refine H10.app_sl (ys := (rcs f ds).flatMap rcV) (m := ds.length) E_sl_api_Record H9.rd (by rw [flat_len (sz := 2) (fun _ => rfl), rl]) (fun q => by
    have := own_n0 H9; exact this q) (fun v hv => by
      obtain ⟨x, _, hx⟩ := List.mem_flatMap.1 hv
      simp only [rcV, List.mem_cons, List.mem_nil_iff, or_false] at hx
      rcases hx with rfl | rfl <;> rfl) (fun h11 a11 c11 H11 => ⟨_, _, _, rfl, ?_⟩) (by omega) (by omega)
  rw [Nat.zero_add, List.nil_append] at H11
  rw [Nat.zero_add]
  have H12 := H11.sel 6 [4, 0, 3]
  refine ⟨_, _, _, H12.cell (off := 1) rfl, ?_⟩
  have ew : IntKind.i64.wrap (((f : Nat) : Int) + ((ds.length : Nat) : Int)) = ((f + ds.length : Nat) : Int) := by rw [wrap_i64_z (by omega) (by omega)]; omega
  dsimp only
  rw [ew]
  have H13 := H12.new (t := T_wal_segment) (cs := #[(.string (segName k)), (.int .i64 (f : Nat)), (.int .i64 ((f + ds.length : Nat) : Int)), (.int .i64 (((headB f ++ body f ds).length : Nat) : Int)), (.bool true)]) (xs := sgV ⟨segName k, f, f + ds.length, (headB f ++ body f ds).length, true⟩)
  generalize Array.size h11 = s at H13 ⊢
  generalize Array.push h11 _ = h13 at H13 ⊢
  refine (H13.own_nil T_p_wal_segment 1).app_vals (ys := [ptrV s]) (m := 1) E_sl_p_wal_segment rfl rfl (by simp [ptrV, oneC]) (fun h14 a14 c14 H14 => ⟨_, _, _, rfl, ?_⟩) (by omega) (by omega)
  refine H14.m2.sto (off := 1) (by simp [lgV]) fun h15 H15 => wal_Open.J1_of (wal_Open.L1_of (br_false rfl (wal_Open.L1_X1 ?_)))
  have H16 : Hs h15 (logA q p d ⟨[⟨segName k, f, f + ds.length, (headB f ++ body f ds).length, true⟩], 0, false, k + 1⟩ :: own a11 ds.length c11 T_api_Record 2 ((rcs f ds).flatMap rcV) :: L) :=
    logA_open.2 ⟨[(s, ⟨segName k, f, f + ds.length, (headB f ++ body f ds).length, true⟩)], a14, c14, rfl, by
      have K := H15.sel 5 [2, 0, 1, 4, 3]
      have K2 : Hs h15 (Sp ([(s, (⟨segName k, f, f + ds.length, (headB f ++ body f ds).length, true⟩ : Seg))].map sgB) :: _) := Hs.app.2 K
      exact K2.sel 4 [1, 2, 0, 3]⟩
  have hl : LI ⟨[⟨segName k, f, f + ds.length, (headB f ++ body f ds).length, true⟩], 0, false, k + 1⟩ := ⟨fun s hs => by
    rw [List.mem_singleton.1 hs]
    refine ⟨?_, ?_, ?_, ?_⟩ <;> dsimp only <;> omega, by show 1 < _; decide, by show k + 1 < _; omega⟩
  refine settle1_hs hd hup (by show _ + 1 + 8 < _; omega) hl (fun s hs => by rw [List.mem_singleton.1 hs]; exact hfi) H16 fun h17 H17 => ⟨_, rfl, br_false rfl ?_⟩
  have hl2 := hl.clean (sy := f + ds.length - 1) (nm := false)
  have H17 : Hs h17 (logA q p (safeD d ⟨[⟨segName k, f, f + ds.length, (headB f ++ body f ds).length, true⟩], 0, true, k + 1⟩) ⟨[⟨segName k, f, f + ds.length, (headB f ++ body f ds).length, false⟩], f + ds.length - 1, false, k + 1⟩ :: own a11 ds.length c11 T_api_Record 2 ((rcs f ds).flatMap rcV) :: L) := H17
  refine Last_hs hl2 H17 ⟨_, rfl, setSynced H17 (f + ds.length - 1) fun h18 H18 => kk h18 q a11 c11 H18.m1⟩
end Go.Proofs.YtjihchpobpgpeaaGreatDoor

set_option linter.unusedVariables false
set_option linter.unusedSimpArgs false
namespace Go.Proofs.YtjihchpobpgpeaaGreatDoor
open Go Go.HW
structure St (d : DS) (ns : List Nm) (t k : Nat) : Prop where
  di : DI d
  up : d.left = none
  room : d.room = 4194304
  nm : ∀ m, (d.find m).isSome = true ↔ m ∈ ns
  tot : T d = t
  st : d.steps ≤ k
/-- A file's bytes, and what of them is safe. -/
def Fc (d : DS) (n : Nm) (f : Fil) : Prop := ∃ j, d.find n = some j ∧ d.fl j = f
variable {d : DS} {ns : List Nm} {t k : Nat} {n : Nm}
theorem St.len (s : St d ns t k) : d.now.length ≤ ns.length := by
  have := s.di.keys.length_le_of_subset (l₂ := ns) fun m hm => (s.nm m).1 (by
    obtain ⟨x, hx, rfl⟩ := List.mem_map.1 hm
    have : d.find x.1 = some x.2 := mget_of_mem s.di.keys hx
    rw [this]; rfl)
  simpa using this
theorem St.create (s : St d ns t k) (hg : good n = true) (hn : n ∉ ns) (hl : ns.length < 64) : (d.create n).2 = 0 ∧ St (d.create n).1 (ns ++ [n]) t (k + 1) ∧ Fc (d.create n).1 n fil0 ∧ (∀ m f, m ≠ n → Fc d m f → Fc (d.create n).1 m f) := by
  have hne : n ≠ e0 := by unfold good at hg; simp at hg; exact hg.1.2
  have hf : d.find n = none := by
    cases e : d.find n with
    | none => rfl
    | some i => exact absurd ((s.nm n).1 (by rw [e]; rfl)) hn
  have hlen := s.len
  have e : d.create n = (DS.change { d with files := d.files ++ [fil0] } ⟨e0, n, d.files.length⟩, 0) := by
    unfold DS.create
    rw [if_neg (by rw [down_none s.up]; simp), if_neg (by rw [hg]; simp), if_neg (by rw [hf]; simp), if_neg (by omega)]
  have hfind : ∀ m, (d.create n).1.find m = if n = m then some d.files.length else d.find m := fun m => by
    rw [e]; exact ap_new s.di.keys hne m
  have hfl : ∀ i, i < d.files.length → (d.create n).1.fl i = d.fl i := fun i hi => by
    rw [e]; unfold DS.fl
    show ((d.files ++ [fil0])[i]?).getD fil0 = _
    rw [List.getElem?_append_left hi]
  refine ⟨by rw [e], ⟨s.di.create n, create_left s.up, by rw [e]; exact s.room, fun m => ?_, ?_, Nat.le_trans (create_steps n) (Nat.succ_le_succ s.st)⟩, ⟨d.files.length, ?_, ?_⟩, fun m f hm ⟨j, h1, h2⟩ => ⟨j, ?_, ?_⟩⟩
  · rw [hfind]
    by_cases q : n = m
    · rw [if_pos q]; simp [q]
    · rw [if_neg q, s.nm m, List.mem_append, List.mem_singleton]
      exact ⟨.inl, fun r => r.elim id fun r => absurd r.symm q⟩
  · rw [e]; rw [← s.tot]
    show ((d.files ++ [fil0]).map fun f => f.bs.length).sum = T d
    unfold T; simp [fil0]
  · rw [hfind, if_pos rfl]
  · rw [e]; unfold DS.fl
    show ((d.files ++ [fil0])[d.files.length]?).getD fil0 = _
    rw [List.getElem?_append_right (Nat.le_refl _)]; simp
  · rw [hfind, if_neg (fun q => hm q.symm)]; exact h1
  · rw [hfl j (s.di.find_lt h1)]; exact h2
theorem fl_set {i j : Nat} {f : Fil} (hi : i < d.files.length) : (({ d with files := d.files.set i f } : DS).fl j) = if i = j then f else d.fl j := by
  unfold DS.fl
  show ((d.files.set i f)[j]?).getD fil0 = _
  by_cases q : i = j
  · subst q; rw [List.getElem?_set_self hi, if_pos rfl]; rfl
  · rw [List.getElem?_set_ne q, if_neg q]
theorem find_inj (hd : DI d) {m n : Nm} {i : Nat} (h1 : d.find m = some i) (h2 : d.find n = some i) : m = n := by
  have := inj_val hd.injn (mget_mem h1) (mget_mem h2) rfl
  exact congrArg (·.1) this
theorem St.append {b : List Nat} (s : St d ns t k) (hn : n ∈ ns) (hb : t + b.length ≤ 4194304) : (d.append n b).2 = 0 ∧ St (d.append n b).1 ns (t + b.length) (k + 1) ∧ (∀ f, Fc d n f → Fc (d.append n b).1 n ⟨f.bs ++ b, f.safe⟩) ∧ (∀ m f, m ≠ n → Fc d m f → Fc (d.append n b).1 m f) := by
  obtain ⟨i, hi⟩ := Option.isSome_iff_exists.1 ((s.nm n).2 hn)
  have hu := used_T s.di
  have ht := s.tot
  have hr := s.room
  have e : d.append n b = (DS.tick { d with files := d.files.set i ⟨(d.fl i).bs ++ b, (d.fl i).safe⟩ }, 0) := by
    unfold DS.append
    rw [if_neg (by rw [down_none s.up]; simp), hi]
    exact if_neg (by omega)
  have hil := s.di.find_lt hi
  have hfind : ∀ m, (d.append n b).1.find m = d.find m := fun m => find_append
  have hfl : ∀ j, (d.append n b).1.fl j = if i = j then ⟨(d.fl i).bs ++ b, (d.fl i).safe⟩ else d.fl j := fun j => by
    rw [e]; exact fl_set hil
  refine ⟨by rw [e], ⟨s.di.append n b, append_left s.up, by rw [e]; exact s.room, fun m => by rw [hfind]; exact s.nm m, ?_, Nat.le_trans (append_steps n b) (Nat.succ_le_succ s.st)⟩, fun f ⟨j, h1, h2⟩ => ⟨j, by rw [hfind]; exact h1, ?_⟩, fun m f hm ⟨j, h1, h2⟩ => ⟨j, by rw [hfind]; exact h1, ?_⟩⟩
  · have := T_set (d := d) hil ⟨(d.fl i).bs ++ b, (d.fl i).safe⟩
    simp only [List.length_append] at this
    rw [e]
    show ((d.files.set i ⟨(d.fl i).bs ++ b, (d.fl i).safe⟩).map fun f => f.bs.length).sum = _
    omega
  · rw [hi] at h1; cases h1
    rw [hfl, if_pos rfl, h2]
  · rw [hfl, if_neg (fun q => hm (find_inj s.di h1 (by rw [← q]; exact hi)))]; exact h2
theorem St.sync (s : St d ns t k) (hn : n ∈ ns) : St (d.sync n).1 ns t (k + 1) ∧ (∀ f, Fc d n f → Fc (d.sync n).1 n ⟨f.bs, f.bs.length⟩) ∧ (∀ m f, m ≠ n → Fc d m f → Fc (d.sync n).1 m f) := by
  obtain ⟨i, hi⟩ := Option.isSome_iff_exists.1 ((s.nm n).2 hn)
  have e : d.sync n = (DS.tick { d with files := d.files.set i ⟨(d.fl i).bs, (d.fl i).bs.length⟩ }, 0) := by
    unfold DS.sync
    rw [if_neg (by rw [down_none s.up]; simp), hi]
  have hil := s.di.find_lt hi
  have hfind : ∀ m, (d.sync n).1.find m = d.find m := fun m => sync_find d
  have hfl : ∀ j, (d.sync n).1.fl j = if i = j then ⟨(d.fl i).bs, (d.fl i).bs.length⟩ else d.fl j := fun j => by
    rw [e]; exact fl_set hil
  refine ⟨⟨s.di.sync n, sync_left s.up, by rw [e]; exact s.room, fun m => by rw [hfind]; exact s.nm m, ?_, Nat.le_trans (sync_steps n) (Nat.succ_le_succ s.st)⟩, fun f ⟨j, h1, h2⟩ => ⟨j, by rw [hfind]; exact h1, ?_⟩, fun m f hm ⟨j, h1, h2⟩ => ⟨j, by rw [hfind]; exact h1, ?_⟩⟩
  · have := T_set (d := d) hil ⟨(d.fl i).bs, (d.fl i).bs.length⟩
    have ht := s.tot
    simp only at this
    rw [e]
    show ((d.files.set i ⟨(d.fl i).bs, (d.fl i).bs.length⟩).map fun f => f.bs.length).sum = _
    omega
  · rw [hi] at h1; cases h1
    rw [hfl, if_pos rfl, h2]
  · rw [hfl, if_neg (fun q => hm (find_inj s.di h1 (by rw [← q]; exact hi)))]; exact h2
theorem St.syncs : ∀ (l : List Seg) {d : DS} {k : Nat}, St d ns t k → (∀ x ∈ l, x.name ∈ ns) → St (syncs d l) ns t (k + l.length) ∧ (∀ m f, (∀ x ∈ l, x.name ≠ m) → Fc d m f → Fc (syncs d l) m f)
  | [], d, k, s, hn => ⟨s, fun m f _ h => h⟩
  | x :: l, d, k, s, hn => by
    rw [syncs_cons]
    split
    · obtain ⟨h1, h2, h3⟩ := s.sync (hn x (List.mem_cons_self ..))
      obtain ⟨g1, g2⟩ := St.syncs l h1 fun y hy => hn y (List.mem_cons_of_mem _ hy)
      refine ⟨by rw [List.length_cons, show k + (l.length + 1) = k + 1 + l.length by omega]; exact g1, fun m f hm h => g2 m f (fun y hy => hm y (List.mem_cons_of_mem _ hy)) (h3 m f (fun q => hm x (List.mem_cons_self ..) q.symm) h)⟩
    · obtain ⟨g1, g2⟩ := St.syncs l s fun y hy => hn y (List.mem_cons_of_mem _ hy)
      exact ⟨⟨g1.di, g1.up, g1.room, g1.nm, g1.tot, by rw [List.length_cons]; have := g1.st; omega⟩, fun m f hm h => g2 m f (fun y hy => hm y (List.mem_cons_of_mem _ hy)) h⟩
theorem syncs_app (d : DS) (l m : List Seg) : syncs d (l ++ m) = syncs (syncs d l) m := by unfold syncs; rw [List.foldl_append]
theorem St.syncdir (s : St d ns t k) : St d.syncdir.1 ns t (k + 1) ∧ (∀ m f, Fc d m f → Fc d.syncdir.1 m f) ∧ d.syncdir.1.safe = d.syncdir.1.now ∧ d.syncdir.1.chg = [] := by
  have e : d.syncdir = (DS.tick { d with safe := d.now, chg := [] }, 0) := by
    unfold DS.syncdir; rw [if_neg (by rw [down_none s.up]; simp)]
  refine ⟨⟨s.di.syncdir, ?_, ?_, ?_, ?_, Nat.le_trans syncdir_steps (Nat.succ_le_succ s.st)⟩, ?_, ?_, ?_⟩
  · rw [e]; simp [DS.tick, s.up]
  · rw [e]; exact s.room
  · rw [e]; exact s.nm
  · rw [e]; exact s.tot
  · rw [e]; exact fun m f h => h
  · rw [e]; rfl
  · rw [e]; rfl
theorem St.remove {x : Nm} (s : St d (x :: ns) t k) (hx : x ∉ ns) : St (d.remove x).1 ns t (k + 1) ∧ (∀ m f, m ≠ x → Fc d m f → Fc (d.remove x).1 m f) := by
  obtain ⟨i, hi⟩ := Option.isSome_iff_exists.1 ((s.nm x).2 (List.mem_cons_self ..))
  have e : d.remove x = (d.change ⟨x, e0, 0⟩, 0) := by
    unfold DS.remove
    rw [if_neg (by rw [down_none s.up]; simp), hi]
  have hne := s.di.find_ne hi
  have hfind : ∀ m, (d.remove x).1.find m = if x = m then none else d.find m := fun m => by
    rw [e]
    show mget (ap d.now ⟨x, e0, 0⟩) m = _
    unfold ap
    dsimp only
    rw [if_neg hne, if_pos rfl, mget_mdel]; rfl
  refine ⟨⟨s.di.remove x, remove_left s.up, by rw [e]; exact s.room, fun m => ?_, by rw [e]; exact s.tot, Nat.le_trans (remove_steps x) (Nat.succ_le_succ s.st)⟩, fun m f hm ⟨j, h1, h2⟩ => ⟨j, by rw [hfind, if_neg (fun q => hm q.symm)]; exact h1, by rw [e]; exact h2⟩⟩
  rw [hfind]
  by_cases q : x = m
  · rw [if_pos q]; subst q; simp [hx]
  · rw [if_neg q, s.nm m, List.mem_cons]
    exact ⟨fun r => r.elim (fun r => absurd r.symm q) id, .inr⟩
theorem St.rems : ∀ (ms : List Nm) {d : DS} {k : Nat}, St d (ms ++ ns) t k → (ms ++ ns).Nodup → St (rems d ms) ns t (k + ms.length) ∧ (∀ m f, m ∉ ms → Fc d m f → Fc (rems d ms) m f)
  | [], d, k, s, hn => ⟨s, fun m f _ h => h⟩
  | x :: ms, d, k, s, hn => by
    have hn' := List.nodup_cons.1 hn
    obtain ⟨h1, h2⟩ := St.remove s hn'.1
    obtain ⟨g1, g2⟩ := St.rems ms h1 hn'.2
    refine ⟨by rw [List.length_cons, show k + (ms.length + 1) = k + 1 + ms.length by omega]; exact g1, fun m f hm h => g2 m f (fun q => hm (List.mem_cons_of_mem _ q)) (h2 m f (fun q => hm (by rw [q]; exact List.mem_cons_self ..)) h)⟩
/-- A disk with one file, whose name is safe. -/
structure One (d : DS) (n : Nm) (f : Fil) (k : Nat) : Prop where
  di : DI d
  up : d.left = none
  room : d.room = 4194304
  st : d.steps ≤ k
  now : ∃ j, d.now = [(n, j)] ∧ d.safe = [(n, j)] ∧ d.chg = [] ∧ d.fl j = f
theorem One.of {f : Fil} (s : St d [n] t k) (h1 : d.safe = d.now) (h2 : d.chg = []) (hf : Fc d n f) : One d n f k := by
  obtain ⟨j, hj, hf⟩ := hf
  have hall : ∀ x ∈ d.now, x = (n, j) := fun x hx => by
    have h3 : d.find x.1 = some x.2 := mget_of_mem s.di.keys hx
    have h4 := (s.nm x.1).1 (by rw [h3]; rfl)
    rw [List.mem_singleton] at h4
    rw [h4, hj] at h3
    cases x; simp at h3 h4; rw [h4, h3]
  have hnow : d.now = [(n, j)] := by
    have hk := s.di.keys
    have hm : (n, j) ∈ d.now := mget_mem hj
    cases e : d.now with
    | nil => rw [e] at hm; cases hm
    | cons x r =>
      rw [e] at hall hk
      have hx := hall x (List.mem_cons_self ..)
      cases r with
      | nil => rw [hx]
      | cons y r =>
        have hy := hall y (List.mem_cons_of_mem _ (List.mem_cons_self ..))
        rw [hx, hy] at hk; simp at hk
  exact ⟨s.di, s.up, s.room, s.st, j, hnow, by rw [h1]; exact hnow, h2, hf⟩
section
variable {f : Fil}
theorem One.find (o : One d n f k) : ∃ j, d.find n = some j ∧ d.fl j = f ∧ j < d.files.length := by
  obtain ⟨j, h1, _, _, h4⟩ := o.now
  have : d.find n = some j := by unfold DS.find; rw [h1, mget_cons, if_pos rfl]
  exact ⟨j, this, h4, o.di.find_lt this⟩
theorem One.some (o : One d n f k) : (d.find n).isSome := by obtain ⟨j, h, _⟩ := o.find; rw [h]; rfl
theorem One.names (o : One d n f k) : d.names = [n] := by
  obtain ⟨j, h1, _⟩ := o.now
  unfold DS.names; rw [if_neg (by rw [down_none o.up]; simp), h1]; rfl
theorem One.used (o : One d n f k) : d.used = f.bs.length := by
  obtain ⟨j, h1, _, _, h4⟩ := o.now
  unfold DS.used; rw [if_neg (by rw [down_none o.up]; simp)]; unfold sumL; rw [h1]; simp [h4]
theorem One.read (o : One d n f k) : d.read n = (f.bs, 0) := by
  obtain ⟨j, h, h2, _⟩ := o.find
  unfold DS.read; rw [if_neg (by rw [down_none o.up]; simp), h]; simp only [h2]
theorem One.append {b : List Nat} (o : One d n f k) (hb : f.bs.length + b.length ≤ 4194304) : (d.append n b).2 = 0 ∧ One (d.append n b).1 n ⟨f.bs ++ b, f.safe⟩ (k + 1) := by
  obtain ⟨j, h, h2, hj⟩ := o.find
  have hu := o.used
  have hr := o.room
  have e : d.append n b = (DS.tick { d with files := d.files.set j ⟨(d.fl j).bs ++ b, (d.fl j).safe⟩ }, 0) := by
    unfold DS.append
    rw [if_neg (by rw [down_none o.up]; simp), h]
    exact if_neg (by omega)
  obtain ⟨j', g1, g2, g3, g4⟩ := o.now
  have : j' = j := by unfold DS.find at h; rw [g1, mget_cons, if_pos rfl] at h; exact Option.some.inj h
  subst this
  refine ⟨by rw [e], o.di.append n b, append_left o.up, by rw [e]; exact o.room, Nat.le_trans (append_steps n b) (Nat.succ_le_succ o.st), j', ?_, ?_, ?_, ?_⟩
  · rw [e]; exact g1
  · rw [e]; exact g2
  · rw [e]; exact g3
  · rw [e]; exact (fl_set hj).trans (by rw [if_pos rfl, h2])
theorem One.sync (o : One d n f k) : One (d.sync n).1 n ⟨f.bs, f.bs.length⟩ (k + 1) := by
  obtain ⟨j, h, h2, hj⟩ := o.find
  have e : d.sync n = (DS.tick { d with files := d.files.set j ⟨(d.fl j).bs, (d.fl j).bs.length⟩ }, 0) := by
    unfold DS.sync
    rw [if_neg (by rw [down_none o.up]; simp), h]
  obtain ⟨j', g1, g2, g3, g4⟩ := o.now
  have : j' = j := by unfold DS.find at h; rw [g1, mget_cons, if_pos rfl] at h; exact Option.some.inj h
  subst this
  refine ⟨o.di.sync n, sync_left o.up, by rw [e]; exact o.room, Nat.le_trans (sync_steps n) (Nat.succ_le_succ o.st), j', ?_, ?_, ?_, ?_⟩
  · rw [e]; exact g1
  · rw [e]; exact g2
  · rw [e]; exact g3
  · rw [e]; exact (fl_set hj).trans (by rw [if_pos rfl, h2])
theorem One.crash (o : One d n f k) (cs : List Int) : One (d.crash cs) n (cut (cs.getD 1 0) f) k := by
  obtain ⟨j, g1, g2, g3, g4⟩ := o.now
  obtain ⟨j', h, h2, hj⟩ := o.find
  have : j = j' := by unfold DS.find at h; rw [g1, mget_cons, if_pos rfl] at h; exact Option.some.inj h
  subst this
  have em : aps d.safe (d.chg.take (says (cs.getD 0 0) d.chg.length)) = [(n, j)] := by rw [g3, g2]; simp [aps]
  have e : d.crash cs = { d with left := none, now := [(n, j)], safe := [(n, j)], chg := [], files := d.files.set j (cut (cs.getD 1 0) f) } := by
    unfold DS.crash
    dsimp only
    rw [em]
    unfold cutAll cutAll
    have : (d.files[j]?).getD fil0 = f := h2
    dsimp only
    rw [this]
  refine ⟨o.di.crash cs, by rw [e], by rw [e]; exact o.room, by rw [crash_steps]; exact o.st, j, by rw [e], by rw [e], by rw [e], ?_⟩
  rw [e]
  show DS.fl { d with files := _ } j = _
  rw [fl_set hj, if_pos rfl]
end
theorem cut_full (c : Int) (bs : List Nat) : cut c ⟨bs, bs.length⟩ = ⟨bs, bs.length⟩ := by
  unfold cut
  dsimp only
  have : bs.take (bs.length + says c (bs.length - bs.length)) = bs := List.take_of_length_le (by omega)
  rw [this]
  split <;> simp
theorem cut_zero (bs : List Nat) (s : Nat) (h : s ≤ bs.length) : cut 0 ⟨bs, s⟩ = ⟨bs.take s, s⟩ := by
  unfold cut
  dsimp only
  have : says 0 (bs.length - s) = 0 := by simp [says]
  rw [this, if_neg (by decide)]
  simp; omega
end Go.Proofs.YtjihchpobpgpeaaGreatDoor

set_option maxRecDepth 20000
set_option linter.unusedVariables false
set_option linter.unusedSimpArgs false
namespace Go.Proofs.YtjihchpobpgpeaaGreatDoor
open Go Go.HW
variable {d : DS} {l : LS} {dt : Nm} {i k : Nat}
theorem st_new : St (dnew 4194304) [] 0 0 := ⟨di_new (by decide), rfl, rfl, fun m => by simp [DS.find, dnew, mget_nil], rfl, Nat.le_refl _⟩
theorem fresh (s : St d [] 0 k) : ((safeD d l00).create (segName 0)).2 = 0 ∧ (((safeD d l00).create (segName 0)).1.append (segName 0) (headB 1)).2 = 0 ∧ ((bgD (safeD d l00) l01 1).find (segName 0)).isSome ∧
    One (openD d) (segName 0) ⟨headB 1, 16⟩ (k + 5) ∧ St (openD d) [segName 0] 16 (k + 5) := by
  obtain ⟨s1, _, _, _⟩ := s.syncdir
  have s1 : St (safeD d l00) [] 0 (k + 1) := s1
  obtain ⟨c1, c2, c3, _⟩ := s1.create (seg_good 0 (by decide)) (by simp) (by decide)
  obtain ⟨a1, a2, a3, _⟩ := c2.append (n := segName 0) (b := headB 1) (by simp) (by rw [head_len]; decide)
  have f1 := a3 _ c3
  obtain ⟨y1, y2, _⟩ := a2.sync (n := segName 0) (by simp)
  have f2 := y2 _ f1
  obtain ⟨z1, z2, z3, z4⟩ := y1.syncdir
  have f3 := z2 _ _ f2
  have e : openD d = ((bgD (safeD d l00) l01 1).sync (segName 0)).1.syncdir.1 := rfl
  have ef : (⟨([] : List Nat) ++ headB 1, (([] : List Nat) ++ headB 1).length⟩ : Fil) = ⟨headB 1, 16⟩ := by rw [List.nil_append, head_len]
  have f3 : Fc (openD d) (segName 0) ⟨headB 1, 16⟩ := by rw [← ef]; exact f3
  have z1 : St (openD d) [segName 0] (0 + (headB 1).length) (k + 1 + 1 + 1 + 1 + 1) := z1
  rw [head_len] at z1
  exact ⟨c1, a1, (a2.nm _).2 (by simp), One.of z1 z3 z4 f3, z1⟩
/-- What is so behind some Appends. -/
structure Ap (dt : Nm) (i : Nat) (d : DS) (l : LS) : Prop where
  st : St d ((List.range l.file).map segName) (16 * l.file + i * (dt.size + 16)) (5 + 3 * i)
  li : LI l
  sg : ∃ xs s, l.segs = xs ++ [s] ∧ s.next = i + 1 ∧ (0 < i → s.first < s.next) ∧ (i = 0 → s.first = s.next ∧ xs = [])
  nm : l.segs.map (·.name) = (List.range l.file).map segName
  nx : ∀ x ∈ l.segs, x.next ≤ i + 1
  sum : (l.segs.map (·.size)).sum = 16 * l.file + i * (dt.size + 16)
  big : ∀ x ∈ l.segs.dropLast, 16384 < x.size
theorem sum_big {c : Nat} : ∀ (xs : List Seg), (∀ x ∈ xs, c ≤ x.size) → xs.length * c ≤ (xs.map (·.size)).sum
  | [], _ => by simp
  | x :: xs, h => by
    have h1 := h x (List.mem_cons_self ..)
    have h2 := sum_big xs fun y hy => h y (List.mem_cons_of_mem _ hy)
    rw [List.map_cons, List.sum_cons, List.length_cons, Nat.add_mul, Nat.one_mul]; omega
theorem Ap.len (a : Ap dt i d l) : l.segs.length = l.file := by
  have := congrArg List.length a.nm
  simpa using this
theorem Ap.file (a : Ap dt i d l) (hi : i ≤ 200) (hd : dt.size ≤ 4000) : 1 ≤ l.file ∧ l.file ≤ 50 := by
  obtain ⟨xs, s, es, _⟩ := a.sg
  have hl := a.len
  have hb := a.big
  have hs := a.sum
  rw [es] at hl hb hs
  rw [List.dropLast_concat] at hb
  have h1 := sum_big (c := 16385) xs hb
  rw [List.map_append, List.sum_append] at hs
  simp only [List.length_append, List.length_singleton] at hl
  have h2 : i * (dt.size + 16) ≤ 200 * 4016 := Nat.mul_le_mul hi (by omega)
  omega
theorem Ap.tot (a : Ap dt i d l) (hi : i ≤ 200) (hd : dt.size ≤ 4000) : 16 * l.file + i * (dt.size + 16) ≤ 804000 := by
  have := a.file hi hd
  have h2 : i * (dt.size + 16) ≤ 200 * 4016 := Nat.mul_le_mul hi (by omega)
  omega
theorem seg_mem {n j : Nat} (h : j < n) : segName j ∈ (List.range n).map segName := List.mem_map_of_mem (List.mem_range.2 h)
theorem seg_new {n : Nat} (h : n < 100) : segName n ∉ (List.range n).map segName := fun q => by
  obtain ⟨j, hj, e⟩ := List.mem_map.1 q
  have hj := List.mem_range.1 hj
  have := seg_inj (by omega) h e
  omega
theorem range_succ_map (n : Nat) : (List.range (n + 1)).map segName = (List.range n).map segName ++ [segName n] := by rw [List.range_succ, List.map_append]; rfl
theorem Ap.last_name {xs : List Seg} {s : Seg} (a : Ap dt i d l) (es : l.segs = xs ++ [s]) : s.name ∈ (List.range l.file).map segName := by
  rw [← a.nm, es]; simp
theorem ap_new' (s : St d [segName 0] 16 5) : Ap dt 0 d ⟨[⟨segName 0, 1, 1, 16, false⟩], 0, false, 1⟩ := by
  refine ⟨by simpa using s, ⟨fun s hs => by rw [List.mem_singleton.1 hs]; decide, by decide, by decide⟩, ⟨[], _, rfl, rfl, fun h => absurd h (by decide), fun _ => ⟨rfl, rfl⟩⟩, rfl, fun x hx => by rw [List.mem_singleton.1 hx]; exact Nat.le_refl _, by simp, nofun⟩
/-- One more, in the segment that is there. -/
theorem Ap.lay {xs : List Seg} {s : Seg} (a : Ap dt i d l) (hi : i < 200) (hd : dt.size ≤ 4000) (es : l.segs = xs ++ [s]) :
    (d.append s.name (laidB s.next (sb dt))).2 = 0 ∧ Ap dt (i + 1) (d.append s.name (laidB s.next (sb dt))).1 ⟨xs ++ [⟨s.name, s.first, s.next + 1, s.size + (laidB s.next (sb dt)).length, true⟩], l.synced, l.names, l.file⟩ := by
  have hll : (laidB s.next (sb dt)).length = dt.size + 16 := by rw [laid_len, sb_len]
  have ht := a.tot (by omega) hd
  obtain ⟨a1, a2, _⟩ := a.st.append (b := laidB s.next (sb dt)) (a.last_name es) (by rw [hll]; omega)
  have e1 : i * (dt.size + 16) + (dt.size + 16) = (i + 1) * (dt.size + 16) := by rw [Nat.add_mul, Nat.one_mul]
  obtain ⟨xs', s', es', h1, h2, h3⟩ := a.sg
  have hin := List.append_inj' (es'.symm.trans es) rfl
  have hss : s' = s := by simpa using hin.2
  subst hss
  have hsf : s'.first ≤ s'.next := by
    by_cases q : i = 0
    · exact Nat.le_of_eq (h3 q).1
    · exact Nat.le_of_lt (h2 (by omega))
  have hsz : s'.size ≤ 16 * l.file + i * (dt.size + 16) := by
    rw [← a.sum, es]; simp
  refine ⟨a1, ⟨?_, a.li.lay es (by omega) (by rw [hll]; omega), ⟨xs, _, rfl, by show s'.next + 1 = _; omega, fun _ => by show s'.first < s'.next + 1; omega, fun q => absurd q (by omega)⟩, ?_, fun x hx => ?_, ?_, ?_⟩⟩
  · rw [hll] at a2
    show St _ ((List.range l.file).map segName) (16 * l.file + (i + 1) * (dt.size + 16)) (5 + 3 * (i + 1))
    rw [← e1, ← Nat.add_assoc]
    exact ⟨a2.di, a2.up, a2.room, a2.nm, a2.tot, Nat.le_trans a2.st (by omega)⟩
  · have := a.nm
    rw [es] at this
    simpa using this
  · rcases List.mem_append.1 hx with q | q
    · have := a.nx x (by rw [es]; exact List.mem_append_left _ q); omega
    · rw [List.mem_singleton.1 q]; show s'.next + 1 ≤ _; omega
  · have := a.sum
    rw [es] at this
    simp only [List.map_append, List.sum_append, List.map_cons, List.map_nil, List.sum_cons, List.sum_nil] at this ⊢
    rw [hll]; omega
  · have := a.big
    rw [es, List.dropLast_concat] at this
    dsimp only
    rw [List.dropLast_concat]; exact this
/-- A new segment is begun. -/
theorem Ap.begin {xs : List Seg} {s : Seg} (a : Ap dt i d l) (hi : i ≤ 200) (hd : dt.size ≤ 4000) (es : l.segs = xs ++ [s]) :
    (d.create (segName l.file)).2 = 0 ∧ ((d.create (segName l.file)).1.append (segName l.file) (headB s.next)).2 = 0 ∧
    St (bgD d l s.next) ((List.range (l.file + 1)).map segName) (16 * (l.file + 1) + i * (dt.size + 16)) (5 + 3 * i + 2) ∧ Fc (bgD d l s.next) (segName l.file) ⟨headB s.next, 0⟩ := by
  have ht := a.tot hi hd
  have hf := a.file hi hd
  obtain ⟨c1, c2, c3, _⟩ := a.st.create (seg_good l.file (by omega)) (seg_new (by omega)) (by simp; omega)
  obtain ⟨a1, a2, a3, _⟩ := c2.append (n := segName l.file) (b := headB s.next) (by simp) (by rw [head_len]; omega)
  have f1 := a3 _ c3
  rw [show (fil0.bs ++ headB s.next : List Nat) = headB s.next from List.nil_append _] at f1
  refine ⟨c1, a1, ?_, f1⟩
  rw [range_succ_map, show 16 * (l.file + 1) + i * (dt.size + 16) = 16 * l.file + i * (dt.size + 16) + 16 by omega]
  rw [head_len] at a2
  exact a2
theorem Ap.roll {xs : List Seg} {s : Seg} (a : Ap dt i d l) (hi : i < 200) (hd : dt.size ≤ 4000) (es : l.segs = xs ++ [s]) (hsz : 16384 < s.size) :
    ((bgD d l s.next).append (segName l.file) (laidB s.next (sb dt))).2 = 0 ∧ Ap dt (i + 1) ((bgD d l s.next).append (segName l.file) (laidB s.next (sb dt))).1
      ⟨(xs ++ [s]) ++ [⟨segName l.file, s.next, s.next + 1, 16 + (laidB s.next (sb dt)).length, true⟩], l.synced, true, l.file + 1⟩ := by
  have hll : (laidB s.next (sb dt)).length = dt.size + 16 := by rw [laid_len, sb_len]
  have ht := a.tot (by omega) hd
  have hf := a.file (by omega) hd
  obtain ⟨_, _, b3, _⟩ := a.begin (by omega) hd es
  obtain ⟨a1, a2, _⟩ := b3.append (n := segName l.file) (b := laidB s.next (sb dt)) (seg_mem (by omega)) (by rw [hll]; omega)
  have e1 : i * (dt.size + 16) + (dt.size + 16) = (i + 1) * (dt.size + 16) := by rw [Nat.add_mul, Nat.one_mul]
  obtain ⟨xs', s', es', h1, h2, h3⟩ := a.sg
  have hin := List.append_inj' (es'.symm.trans es) rfl
  have hss : s' = s := by simpa using hin.2
  subst hss
  have hl1 : LI (bgL l s'.next) := a.li.begin (by omega) (by rw [a.len]; omega) (by omega)
  have hl2 := hl1.lay (m := (laidB s'.next (sb dt)).length) (sy := l.synced) (nm := true) (xs := l.segs) (s := ⟨segName l.file, s'.next, s'.next, 16, true⟩) rfl (by show s'.next + 1 < _; omega) (by show 16 + _ < _; rw [hll]; omega)
  rw [es] at hl2
  refine ⟨a1, ⟨?_, hl2, ⟨xs ++ [s'], _, rfl, by show s'.next + 1 = _; omega, fun _ => by show s'.next < s'.next + 1; omega, fun q => absurd q (by omega)⟩, ?_, fun x hx => ?_, ?_, ?_⟩⟩
  · rw [hll] at a2
    show St _ ((List.range (l.file + 1)).map segName) (16 * (l.file + 1) + (i + 1) * (dt.size + 16)) (5 + 3 * (i + 1))
    rw [← e1, ← Nat.add_assoc]
    exact ⟨a2.di, a2.up, a2.room, a2.nm, a2.tot, Nat.le_trans a2.st (by omega)⟩
  · show List.map (fun x : Seg => x.name) ((xs ++ [s']) ++ [_]) = (List.range (l.file + 1)).map segName
    rw [range_succ_map, ← a.nm, es, List.map_append]; rfl
  · rcases List.mem_append.1 hx with q | q
    · have := a.nx x (by rw [es]; exact q); omega
    · rw [List.mem_singleton.1 q]; show s'.next + 1 ≤ _; omega
  · have := a.sum
    rw [es] at this
    show (List.map (fun x : Seg => x.size) ((xs ++ [s']) ++ [_])).sum = _
    rw [List.map_append, List.sum_append, this]
    simp only [List.map_cons, List.map_nil, List.sum_cons, List.sum_nil]
    rw [hll]; omega
  · have := a.big
    rw [es, List.dropLast_concat] at this
    dsimp only
    rw [List.dropLast_concat]
    intro x hx
    rcases List.mem_append.1 hx with q | q
    · exact this x q
    · rw [List.mem_singleton.1 q]; exact hsz
theorem safeD_true {d : DS} {l : LS} (h : l.names = true) : safeD d l = (syncs d l.segs).syncdir.1 := by unfold safeD; rw [if_pos h]
theorem syncs_d (d : DS) (s : Seg) (h : s.dirty = true) : syncs d [s] = (d.sync s.name).1 := by rw [syncs_cons, if_pos h]; rfl
theorem syncs_c (d : DS) (s : Seg) (h : s.dirty = false) : syncs d [s] = d := by rw [syncs_cons, if_neg (by rw [h]; simp)]; rfl
/-- When all is cut and made safe there is one file with a head. -/
theorem Ap.cut {xs : List Seg} {s : Seg} {sy : Nat} (a : Ap dt i d l) (hi : i ≤ 200) (hd : dt.size ≤ 4000) (es : l.segs = xs ++ [s]) :
    One (safeD (cutD d l s.next) ⟨[⟨segName l.file, s.next, s.next, 16, false⟩], sy, true, l.file + 1⟩) (segName l.file) ⟨headB s.next, 16⟩ 1000 ∧ ∃ t k, St (cutD d l s.next) [segName l.file] t k ∧ k ≤ 1000 := by
  have hf := a.file hi hd
  have ht := a.tot hi hd
  obtain ⟨_, _, b3, b4⟩ := a.begin hi hd es
  have hmem : ∀ x ∈ l.segs, x.name ∈ (List.range l.file).map segName := fun x hx => by rw [← a.nm]; exact List.mem_map_of_mem hx
  have hne : ∀ x ∈ l.segs, x.name ≠ segName l.file := fun x hx q => seg_new (by omega) (q ▸ hmem x hx)
  obtain ⟨c1, c2⟩ := b3.syncs l.segs (fun x hx => by rw [range_succ_map]; exact List.mem_append_left _ (hmem x hx))
  have f1 := c2 _ _ hne b4
  obtain ⟨d1, d2, _⟩ := c1.sync (n := segName l.file) (seg_mem (by omega))
  have f2 := d2 _ f1
  obtain ⟨e1, e2, _, _⟩ := d1.syncdir
  have f3 := e2 _ _ f2
  have es1 : safeD (bgD d l s.next) (bgL l s.next) = ((syncs (bgD d l s.next) l.segs).sync (segName l.file)).1.syncdir.1 := by
    rw [safeD_true rfl, show (bgL l s.next).segs = l.segs ++ [⟨segName l.file, s.next, s.next, 16, true⟩] from rfl, syncs_app, syncs_d _ _ rfl]
  rw [range_succ_map] at e1
  obtain ⟨g1, g2⟩ := St.rems ((List.range l.file).map segName) e1 (by
    rw [← range_succ_map]
    have : ((List.range (l.file + 1)).map segName) = ((List.range 100).map segName).take (l.file + 1) := by
      rw [← List.map_take, List.take_range, Nat.min_eq_left (by omega)]
    rw [this]
    exact seg_nodup.sublist (List.take_sublist _ _))
  have f4 := g2 _ _ (seg_new (by omega)) f3
  obtain ⟨h1, h2, h3, h4⟩ := g1.syncdir
  have f5 := h2 _ _ f4
  have ec : safeD (cutD d l s.next) ⟨[⟨segName l.file, s.next, s.next, 16, false⟩], sy, true, l.file + 1⟩ = (rems ((syncs (bgD d l s.next) l.segs).sync (segName l.file)).1.syncdir.1 ((List.range l.file).map segName)).syncdir.1 := by
    rw [safeD_true rfl, syncs_c _ _ rfl, ← es1, ← a.nm]; rfl
  have ec2 : cutD d l s.next = rems ((syncs (bgD d l s.next) l.segs).sync (segName l.file)).1.syncdir.1 ((List.range l.file).map segName) := by
    rw [← es1, ← a.nm]; rfl
  rw [ec]
  have := One.of h1 h3 h4 f5
  simp only [head_len] at this
  have hl := a.len
  refine ⟨⟨this.di, this.up, this.room, Nat.le_trans this.st ?_, this.now⟩, _, _, ec2 ▸ g1, ?_⟩
  · simp; omega
  · simp; omega
end Go.Proofs.YtjihchpobpgpeaaGreatDoor

set_option maxRecDepth 20000
set_option linter.unusedVariables false
set_option linter.unusedSimpArgs false
namespace Go.Proofs.YtjihchpobpgpeaaGreatDoor
open Go Go.HW
variable {h : Heap} {L : List Assn} {Q : Value → Heap → Prop} {q p : Nat} {d : DS} {l : LS}
theorem room_hs (H : Hs h L) (kk : ∀ h' p, Hs h' (diskA p (dnew 4194304) :: L) → Q (.pointer (some ⟨p, 0, none⟩)) h') : SpecH PP F_law10_room [] h Q := by
  refine law10_room.door (New_hs (room := 4194304) H (fun q => absurd q (by decide)) fun _ _ h' p H' => ⟨_, _, rfl, kk h' p H'⟩)
theorem log_disk (H : Hs h (logA q p d l :: L)) : Hs h (diskA p d :: L) := by
  obtain ⟨sg, a, c, e, H0⟩ := logA_open.1 H
  exact H0.tl.tl.tl
theorem awake_hs (t : TabL L) (tp : PTabL L) (H : Hs h L) (kk : ∀ h', Hs h' L → Q (.bool true) h') : SpecH PP F_law10_awake [] h Q := by
  obtain ⟨f1, f2, f3, o0, _⟩ := fresh st_new
  refine law10_awake.door (room_hs H fun h1 p H1 => ⟨_, rfl, ?_⟩)
  refine WOpen0_hs t tp st_new.di rfl (by decide) rfl f1 f2 f3 H1 fun h2 q H2 => ⟨_, _, _, _, _, rfl, br_false rfl (br_false rfl (law10_awake.J1_of (br_false rfl ?_)))⟩
  generalize openD (dnew 4194304) = d0 at *
  -- a
  have l0 : LI ⟨[⟨segName 0, 1, 1, 16, false⟩], 0, false, 1⟩ := ⟨fun s hs => by rw [List.mem_singleton.1 hs]; decide, by decide, by decide⟩
  have la : (laidB 1 (sb ⟨#[97]⟩)).length = 17 := by rw [laid_len]; rfl
  have lb : (laidB 2 (sb ⟨#[98]⟩)).length = 17 := by rw [laid_len]; rfl
  have lc : (laidB 3 (sb ⟨#[99]⟩)).length = 17 := by rw [laid_len]; rfl
  have lh := head_len 1
  obtain ⟨a1, o1⟩ := o0.append (b := laidB 1 (sb ⟨#[97]⟩)) (by rw [la, lh]; decide)
  have sd0 := o0.st
  refine WAppend_hs (xs := []) (s := ⟨segName 0, 1, 1, 16, false⟩) (dt := ⟨#[97]⟩) t o0.di (by omega) l0 rfl (by decide) (by decide) a1 H2 fun h3 H3 => ⟨_, _, rfl, ?_⟩
  have l1 := l0.lay (xs := []) (s := ⟨segName 0, 1, 1, 16, false⟩) (m := (laidB 1 (sb ⟨#[97]⟩)).length) (sy := 0) (nm := false) rfl (by decide) (by rw [la]; decide)
  have H3 : Hs h3 (logA q p (d0.append (segName 0) (laidB 1 (sb ⟨#[97]⟩))).1 ⟨[] ++ [⟨segName 0, 1, 2, 16 + (laidB 1 (sb ⟨#[97]⟩)).length, true⟩], 0, false, 1⟩ :: L) := H3
  have l1 : LI ⟨[] ++ [⟨segName 0, 1, 2, 16 + (laidB 1 (sb ⟨#[97]⟩)).length, true⟩], 0, false, 1⟩ := l1
  rw [la] at H3 l1
  dsimp only at o1
  generalize (d0.append (segName 0) (laidB 1 (sb ⟨#[97]⟩))).1 = d1 at *
  -- b
  obtain ⟨a2, o2⟩ := o1.append (b := laidB 2 (sb ⟨#[98]⟩)) (by simp only [List.length_append, lb, la, lh]; decide)
  have sd1 := o1.st
  refine WAppend_hs (xs := []) (s := ⟨segName 0, 1, 2, 16 + 17, true⟩) (dt := ⟨#[98]⟩) t o1.di (by omega) l1 rfl (by decide) (by decide) a2 H3 fun h4 H4 => ⟨_, _, rfl, ?_⟩
  have l2 := l1.lay (xs := []) (s := ⟨segName 0, 1, 2, 16 + 17, true⟩) (m := (laidB 2 (sb ⟨#[98]⟩)).length) (sy := 0) (nm := false) rfl (by decide) (by rw [lb]; decide)
  have H4 : Hs h4 (logA q p (d1.append (segName 0) (laidB 2 (sb ⟨#[98]⟩))).1 ⟨[] ++ [⟨segName 0, 1, 3, 16 + 17 + (laidB 2 (sb ⟨#[98]⟩)).length, true⟩], 0, false, 1⟩ :: L) := H4
  have l2 : LI ⟨[] ++ [⟨segName 0, 1, 3, 16 + 17 + (laidB 2 (sb ⟨#[98]⟩)).length, true⟩], 0, false, 1⟩ := l2
  rw [lb] at H4 l2
  dsimp only at o2
  generalize (d1.append (segName 0) (laidB 2 (sb ⟨#[98]⟩))).1 = d2 at *
  -- Sync
  have sd2 := o2.st
  refine WSync_hs (l := ⟨[] ++ [⟨segName 0, 1, 3, 16 + 17 + 17, true⟩], 0, false, 1⟩) o2.di o2.up (by show d2.steps + 1 + 8 < _; omega) l2 (fun s hs => by
    have : s = ⟨segName 0, 1, 3, 16 + 17 + 17, true⟩ := by simpa using hs
    subst this; exact o2.some) H4 fun h5 H5 => ⟨_, rfl, ?_⟩
  have o3 := o2.sync
  have es : safeD d2 ⟨[] ++ [⟨segName 0, 1, 3, 16 + 17 + 17, true⟩], 0, false, 1⟩ = (d2.sync (segName 0)).1 := by
    unfold safeD
    rw [if_neg (by simp)]
    exact syncs_d d2 ⟨segName 0, 1, 3, 16 + 17 + 17, true⟩ rfl
  rw [es] at H5
  have H5 : Hs h5 (logA q p (d2.sync (segName 0)).1 ⟨[] ++ [⟨segName 0, 1, 3, 16 + 17 + 17, false⟩], 2, false, 1⟩ :: L) := H5
  dsimp only at o3
  generalize (d2.sync (segName 0)).1 = d3 at *
  refine Synced_hs H5 ⟨_, rfl, ?_⟩
  -- too long
  obtain ⟨N, hN⟩ : ∃ N : Nat, N = 65537 := ⟨_, rfl⟩
  have eN : (65537 : Int) = (N : Int) := by omega
  rw [eN]
  refine H5.make E_sl_uint8 (n := N) (c := N) rfl rfl (Nat.le_refl _) (by omega) (by omega) fun h6 b6 H6 => ⟨_, _, _, rfl, ?_⟩
  have r6 : Rd h6 (some ⟨b6, 0, none⟩) (nV (List.replicate N 0)) := H6.ptrd (by simp [nV])
  refine hwp_b2s U_string U_sl_uint8 U_uint8 r6 (List.length_replicate ..) (fun e => by cases e) ⟨_, rfl, ?_⟩
  refine WLong_hs (by rw [st_size, List.length_replicate]; omega) ⟨_, _, rfl, ?_⟩
  have H7 := H6.tl
  -- c
  have l3 : LI ⟨[] ++ [⟨segName 0, 1, 3, 16 + 17 + 17, false⟩], 2, false, 1⟩ := l2.clean (sy := 2) (nm := false)
  have lbs : ((headB 1 ++ laidB 1 (sb ⟨#[97]⟩)) ++ laidB 2 (sb ⟨#[98]⟩)).length = 50 := by simp only [List.length_append, lb, la, lh]
  have ebs : (headB 1 ++ laidB 1 (sb ⟨#[97]⟩)) ++ laidB 2 (sb ⟨#[98]⟩) = headB 1 ++ body 1 [⟨#[97]⟩, ⟨#[98]⟩] := by
    rw [body_cons, body_cons, show body (1 + 1 + 1) [] = [] from rfl, List.append_nil, List.append_assoc]
  rw [ebs] at lbs o3
  rw [lbs] at o3
  obtain ⟨a4, o4⟩ := o3.append (b := laidB 3 (sb ⟨#[99]⟩)) (by rw [lc, lbs]; decide)
  have sd3 := o3.st
  refine WAppend_hs (xs := []) (s := ⟨segName 0, 1, 3, 16 + 17 + 17, false⟩) (dt := ⟨#[99]⟩) t o3.di (by omega) l3 rfl (by decide) (by decide) a4 H7 fun h8 H8 => ⟨_, _, rfl, ?_⟩
  have H8 := log_disk H8
  dsimp only at H8 o4
  generalize (d3.append (segName 0) (laidB 3 (sb ⟨#[99]⟩))).1 = d4 at *
  -- Crash
  have sd4 := o4.st
  refine Crash_hs (cs := []) (L := L) o4.di (by omega) (fun h _ => Rd.nil h _) rfl (Nat.le_refl _) (fun _ => rfl) nofun H8.tl H8 fun h9 H9 => ⟨_, rfl, ?_⟩
  have o5 := o4.crash []
  rw [show ([] : List Int).getD 1 0 = 0 from rfl, cut_zero _ _ (by rw [List.length_append, lbs]; omega), List.take_left' lbs] at o5
  generalize d4.crash [] = d5 at *
  have sd5 := o5.st
  refine WOpen1_hs (k := 0) (f := 1) (ds := [⟨#[97]⟩, ⟨#[98]⟩]) t o5.di o5.up (by omega) (by decide) (by decide) (by decide) (by decide) o5.names o5.read (by rw [lbs]; decide) o5.some H9 fun h10 q2 a10 c10 H10 => ⟨_, _, _, _, _, rfl, ?_⟩
  refine br_false rfl (br_false rfl (br_false rfl (law10_awake.J2_of (br_false rfl ?_))))
  refine br_true rfl (br_true rfl (br_true rfl (br_true rfl (br_true rfl (br_true rfl (br_true rfl ?_))))))
  refine idxf (φ := rcV) (x := (1, ⟨#[97]⟩)) E_sl_api_Record H10.rd (fun _ => rfl) (by decide) (by decide) (by decide) rfl fun t1 ht => ⟨_, _, ht, br_true rfl ?_⟩
  refine idxf (φ := rcV) (x := (2, ⟨#[98]⟩)) E_sl_api_Record H10.rd (fun _ => rfl) (by decide) (by decide) (by decide) rfl fun t1 ht => ⟨_, _, ht, br_true rfl ?_⟩
  have l6 : LI ⟨[⟨segName 0, 1, 1 + 2, 50, false⟩], 1 + 2 - 1, false, 0 + 1⟩ := ⟨fun s hs => by rw [List.mem_singleton.1 hs]; decide, by decide, by decide⟩
  rw [lbs] at H10
  have H11 := H10.m1
  refine Last_hs l6 H11 ⟨_, rfl, br_true rfl ?_⟩
  exact WCutNo_hs (n := 9) l6 (by decide) H11 ⟨_, rfl, kk _ H11.tl.tl⟩
end Go.Proofs.YtjihchpobpgpeaaGreatDoor

set_option maxRecDepth 20000
set_option linter.unusedVariables false
set_option linter.unusedSimpArgs false
namespace Go.Proofs.YtjihchpobpgpeaaGreatDoor
open Go Go.HW
variable {h : Heap} {L : List Assn} {Q : Value → Heap → Prop} {q p : Nat} {d : DS} {l : LS}
structure WTab (h : Heap) : Prop where
  k : Tab h
  p : PTab h
theorem WalNil_spec {dt : ByteArray} {n : Int} (tab : WTab h) (HQ : ∀ h', ExtB h.size h h' → Q (.bool true) h') : SpecH PP F_law10_WalNil [.string dt, .int .i64 n] h Q := by
  have t : TabL [ro h] := TabL.ro tab.k
  have tp : PTabL [ro h] := PTabL.ro tab.p
  refine law10_WalNil.door ((br_iff _ _ _).2 ⟨fun _ => awake_hs t tp (Hs.start h) fun h2 H2 => ⟨_, rfl, HQ _ H2.ro_below⟩, fun _ => ?_⟩)
  refine wal_Open.door (br_true rfl ⟨_, _, _, _, _, rfl, ?_⟩)
  refine wal_Log_Append.door (br_true rfl ⟨_, _, rfl, ?_⟩)
  refine awake_hs t tp (Hs.start h) fun h2 H2 => ⟨_, rfl, br_true rfl (br_true rfl (br_true rfl (br_true rfl (br_true rfl (br_true rfl ?_)))))⟩
  refine wal_Log_Sync.door (br_true rfl ⟨_, rfl, br_true rfl ?_⟩)
  refine wal_Log_Cut.door (br_true rfl ⟨_, rfl, br_true rfl ?_⟩)
  refine wal_Log_Synced.door (br_true rfl ⟨_, rfl, br_true rfl ?_⟩)
  refine wal_Log_Last.door (br_true rfl (wal_Log_Last.J1_of (br_true rfl ⟨_, rfl, br_true rfl ?_⟩)))
  refine wal_Log_First.door (br_true rfl (wal_Log_First.J1_of (br_true rfl ⟨_, rfl, HQ _ H2.ro_below⟩)))
abbrev lz : LS := ⟨[⟨segName 0, 1, 1, 16, false⟩], 0, false, 1⟩
/-- What is so behind some Appends of a fresh log. -/
structure Apz (dt : Nm) (i : Nat) (d : DS) (l : LS) : Prop where
  ap : Ap dt i d l
  z : i = 0 → l = lz ∧ One d (segName 0) ⟨headB 1, 16⟩ 1000
theorem app_loop {b : OA} {bn bc m : Nat} {dt : Nm} (hm : m ≤ 200) (hdt : dt.size ≤ 4000) (t : TabL L) (tp : PTabL L)
    (kk : ∀ h' d l, Apz dt m d l → Hs h' (logA q p d l :: L) → (law10_WalCuts.K3 Q) (.exit 0) (law10_WalCuts.X0 (m : Nat) dt b bn bc (some ⟨p, 0, none⟩) (some ⟨q, 0, none⟩)) h') :
    ∀ (r i : Nat) {h : Heap} {d : DS} {l : LS}, i + r = m → Apz dt i d l → Hs h (logA q p d l :: L) → law10_WalCuts.L1 (m : Nat) dt b bn bc (some ⟨p, 0, none⟩) (some ⟨q, 0, none⟩) (i : Nat) (law10_WalCuts.K3 Q) h
  | 0, i, h, d, l, hi, a, H => by
    have : i = m := by omega
    subst this
    exact law10_WalCuts.L1_of (br_false (by simp) (kk h d l a H))
  | r + 1, i, h, d, l, hi, a, H => by
    refine law10_WalCuts.L1_of (br_true (by simp; omega) ?_)
    obtain ⟨xs, s, es, hnx, _, _⟩ := a.ap.sg
    have hst := a.ap.st.st
    have hli := a.ap.li
    have hfl := a.ap.file (by omega) hdt
    have hlen := a.ap.len
    have ew : IntKind.i64.wrap (((i : Nat) : Int) + 1) = ((s.next : Nat) : Int) := by rw [wrap_i64_z (by omega) (by omega)]; omega
    have next : ∀ {h' : Heap} {d' : DS} {l' : LS}, Ap dt (i + 1) d' l' → Hs h' (logA q p d' l' :: L) → ∃ (t62 t62_1 : Int), Value.tuple #[.int .i64 ((s.next : Nat) : Int), .int .i64 0] = (.tuple #[(.int .i64 t62), (.int .i64 t62_1)]) ∧
        br (t62_1 != 0) (law10_WalCuts.J3 (m : Nat) dt b bn bc (some ⟨p, 0, none⟩) (some ⟨q, 0, none⟩) (i : Nat) true (law10_WalCuts.K3 Q) h')
        (law10_WalCuts.J3 (m : Nat) dt b bn bc (some ⟨p, 0, none⟩) (some ⟨q, 0, none⟩) (i : Nat) (t62 != IntKind.i64.wrap (((i : Nat) : Int) + 1)) (law10_WalCuts.K3 Q) h') := by
      intro h' d' l' a' H'
      refine ⟨_, _, rfl, br_false rfl ?_⟩
      rw [ew]
      refine law10_WalCuts.J3_of (br_false (by simp) ?_)
      dsimp only
      rw [ew, hnx]
      exact app_loop hm hdt t tp kk r (i + 1) (by omega) ⟨a', fun q => absurd q (by omega)⟩ H'
    by_cases hsz : 16384 < s.size
    · obtain ⟨c1, c2, c3, _⟩ := a.ap.begin (by omega) hdt es
      obtain ⟨c4, c5⟩ := a.ap.roll (by omega) hdt es hsz
      exact WRoll_hs t tp a.ap.st.di (by omega) hli es (by omega) hsz (by omega) (by omega) c1 c2 c4 H fun h' H' => next c5 H'
    · obtain ⟨c4, c5⟩ := a.ap.lay (by omega) hdt es
      exact WAppend_hs t a.ap.st.di (by omega) hli es (by omega) (by omega) c4 H fun h' H' => next c5 H'
/-- What is so when all is cut. -/
structure Cutz (m : Nat) (d : DS) (l : LS) : Prop where
  di : DI d
  up : d.left = none
  st : d.steps ≤ 1000
  li : LI l
  lg : ∃ k sy nm fi, k < 99 ∧ l = ⟨[⟨segName k, m + 1, m + 1, 16, false⟩], sy, nm, fi⟩ ∧ (d.find (segName k)).isSome ∧ One (safeD d l) (segName k) ⟨headB (m + 1), 16⟩ 1000
theorem cut_any {m : Nat} {dt : Nm} (hm : m ≤ 200) (hdt : dt.size ≤ 4000) (t : TabL L) (tp : PTabL L) (a : Apz dt m d l) (H : Hs h (logA q p d l :: L)) (kk : ∀ h' d' l', Cutz m d' l' → Hs h' (logA q p d' l' :: L) → Q (.int .i64 0) h') :
    SpecH PP F_wal_Log_Cut [.pointer (some ⟨q, 0, none⟩), .int .i64 (m : Nat)] h Q := by
  obtain ⟨xs, s, es, hnx, hs1, hs2⟩ := a.ap.sg
  have hla := last_snoc es
  have hml : m = l.last := by omega
  have hfl := a.ap.file hm hdt
  have hlen := a.ap.len
  have hst := a.ap.st.st
  by_cases h0 : m = 0
  · obtain ⟨rfl, o⟩ := a.z h0
    rw [hml]
    refine WCut0_hs (s := ⟨segName 0, 1, 1, 16, false⟩) a.ap.li rfl rfl H (kk h d lz ⟨a.ap.st.di, a.ap.st.up, by omega, a.ap.li, 0, 0, false, 1, by decide, by rw [h0], o.some, ?_⟩ H)
    have : safeD d lz = d := by unfold safeD; rw [if_neg (by simp)]; exact syncs_c d _ rfl
    rw [this, h0]; exact o
  · obtain ⟨c1, c2, c3, _⟩ := a.ap.begin hm hdt es
    obtain ⟨o, t1, k1, s1, hk1⟩ := a.ap.cut (sy := l.last) hm hdt es
    have hmem : ∀ x ∈ l.segs, (d.find x.name).isSome := fun x hx => (a.ap.st.nm _).2 (by rw [← a.ap.nm]; exact List.mem_map_of_mem hx)
    have hnd : (l.segs.map (·.name)).Nodup := by
      rw [a.ap.nm]
      have : ((List.range l.file).map segName) = ((List.range 100).map segName).take l.file := by
        rw [← List.map_take, List.take_range, Nat.min_eq_left (by omega)]
      rw [this]
      exact seg_nodup.sublist (List.take_sublist _ _)
    rw [hml]
    refine WCut_hs t tp a.ap.st.di a.ap.st.up (by omega) a.ap.li es (hs1 (by omega)) (fun x hx => by have := a.ap.nx x hx; omega) (by omega) (by omega) hmem hnd c1 c2 ((c3.nm _).2 (seg_mem (by omega))) H fun h' H' => ?_
    refine kk h' _ _ ⟨s1.di, s1.up, Nat.le_trans s1.st hk1, ⟨fun x hx => ?_, by show 1 < _; decide, by show l.file + 1 < _; omega⟩, l.file, l.last, true, l.file + 1, by omega, by rw [hnx], (s1.nm _).2 (by simp), by rw [← hnx]; exact o⟩ H'
    rw [List.mem_singleton.1 hx]
    refine ⟨?_, ?_, ?_, ?_⟩ <;> dsimp only <;> omega
theorem WalCuts_spec {many : Int} {dt : ByteArray} {b : OA} {bn bc : Nat} {cs : List Int} (tab : WTab h) (hr : Rd h b (zV cs)) (hn : cs.length = bn) (hnc : bn ≤ bc) (hy : b = none → bc = 0) (hcs : ∀ z ∈ cs, -9223372036854775808 ≤ z ∧ z ≤ 9223372036854775807)
    (HQ : ∀ h', ExtB h.size h h' → Q (.bool true) h') : SpecH PP F_law10_WalCuts [.int .i64 many, .string dt, .slice b bn bc] h Q := by
  have t : TabL [ro h] := TabL.ro tab.k
  have tp : PTabL [ro h] := PTabL.ro tab.p
  have bad : law10_WalCuts.J1 many dt b bn bc true Q h := law10_WalCuts.J1_of (br_true rfl (awake_hs t tp (Hs.start h) fun h2 H2 => ⟨_, rfl, HQ _ H2.ro_below⟩))
  refine law10_WalCuts.door ((br_iff _ _ _).2 ⟨fun _ => bad, fun c1 => (br_iff _ _ _).2 ⟨fun _ => bad, fun c2 => (br_iff _ _ _).2 ⟨fun _ => bad, fun c3 => ?_⟩⟩⟩)
  have c1 := of_decide_eq_false c1
  have c2 := of_decide_eq_false c2
  have c3 := of_decide_eq_false c3
  dsimp only
  by_cases c4 : ((bn : Nat) : Int) > 300
  · rw [decide_eq_true c4]; exact bad
  rw [decide_eq_false c4]
  obtain ⟨m, rfl⟩ : ∃ m : Nat, many = m := ⟨many.toNat, by omega⟩
  have hm : m ≤ 200 := by omega
  have hdt : dt.size ≤ 4000 := by omega
  obtain ⟨f1, f2, f3, o0, s0⟩ := fresh st_new
  refine law10_WalCuts.J1_of (br_false rfl (room_hs (Hs.start h) fun h1 p H1 => ⟨_, rfl, ?_⟩))
  refine WOpen0_hs t tp st_new.di rfl (by decide) rfl f1 f2 f3 H1 fun h2 q H2 => ⟨_, _, _, _, _, rfl, br_false rfl (law10_WalCuts.J2_of (br_false rfl ?_))⟩
  refine app_loop hm hdt t tp (fun h3 d3 l3 a3 H3 => law10_WalCuts.L1_X0 ?_) m 0 (by omega) ⟨ap_new' s0, fun _ => ⟨rfl, ⟨o0.di, o0.up, o0.room, Nat.le_trans o0.st (by decide), o0.now⟩⟩⟩ H2
  refine cut_any hm hdt t tp a3 H3 fun h4 d4 l4 c4' H4 => ⟨_, rfl, ?_⟩
  obtain ⟨k, sy, nm, fi, hk, el4, hfs, o⟩ := c4'.lg
  have hst4 := c4'.st
  refine WSync_hs c4'.di c4'.up (by rw [el4]; show _ + 1 + 8 < _; omega) c4'.li (fun s hs => by rw [el4] at hs; rw [List.mem_singleton.1 hs]; exact hfs) H4 fun h5 H5 => ⟨_, rfl, ?_⟩
  have H6 := log_disk H5
  generalize safeD d4 l4 = d5 at *
  have so := o.st
  refine Names_hs o.di (by omega) H6 fun h7 a7 c7 H7 => ⟨_, _, _, rfl, ?_⟩
  refine Used_hs o.di (by omega) H7.m1 fun h8 H8 => ⟨_, rfl, ?_⟩
  have H9 := H8.sel 2 [0]
  refine Crash_hs (cs := cs) (L := [ro h]) o.di (by omega) (Gv.ro hr) hn hnc hy (fun c hc => by have := hcs c hc; omega) H9.tl H9 fun h10 H10 => ⟨_, rfl, ?_⟩
  have ou := o.used
  have on := o.names
  have o2 := o.crash cs
  have e16 : (⟨headB (m + 1), 16⟩ : Fil) = ⟨headB (m + 1), (headB (m + 1)).length⟩ := by rw [head_len]
  rw [e16, cut_full, ← e16] at o2
  rw [head_len] at ou
  generalize d5.crash cs = d6 at *
  have so2 := o2.st
  have e0' : headB (m + 1) ++ body (m + 1) [] = headB (m + 1) := by rw [show body (m + 1) [] = [] from rfl, List.append_nil]
  refine WOpen1_hs (k := k) (f := m + 1) (ds := []) t o2.di o2.up (by omega) hk (by omega) nofun (by show m + 1 + 0 < _; omega) o2.names (by rw [e0']; exact o2.read) (by rw [e0', head_len]; decide) o2.some H10 fun h11 q2 a11 c11 H11 => ⟨_, _, _, _, _, rfl, ?_⟩
  rw [e0', head_len] at H11
  have H12 := H11.tl
  refine br_false rfl (br_false rfl (br_false rfl (law10_WalCuts.J4_of (br_false rfl (law10_WalCuts.L2_of (br_false rfl (law10_WalCuts.L2_X2 ?_)))))))
  -- more
  have hl6 : LI ⟨[⟨segName k, m + 1, m + 1 + 0, 16, false⟩], m + 1 + 0 - 1, false, k + 1⟩ := ⟨fun x hx => by
    rw [List.mem_singleton.1 hx]
    refine ⟨?_, ?_, ?_, ?_⟩ <;> dsimp only <;> omega, by show 1 < _; decide, by show k + 1 < _; omega⟩
  have o3 : One (safeD d6 ⟨[⟨segName k, m + 1, m + 1 + 0, 16, true⟩], 0, true, k + 1⟩) (segName k) ⟨headB (m + 1), 16⟩ 1002 := by
    rw [safeD_true rfl, syncs_d _ _ rfl]
    have g := o2.sync
    simp only [head_len] at g
    obtain ⟨j, g1, g2, g3, g4⟩ := g.now
    have e : (d6.sync (segName k)).1.syncdir = (DS.tick { (d6.sync (segName k)).1 with safe := (d6.sync (segName k)).1.now, chg := [] }, 0) := by
      unfold DS.syncdir; rw [if_neg (by rw [down_none g.up]; simp)]
    refine ⟨g.di.syncdir, ?_, ?_, ?_, j, ?_, ?_, ?_, ?_⟩
    · rw [e]; simp [DS.tick, g.up]
    · rw [e]; exact g.room
    · have := syncdir_steps (d := (d6.sync (segName k)).1)
      have := g.st
      show (d6.sync (segName k)).1.syncdir.1.steps ≤ 1002
      omega
    · rw [e]; exact g1
    · rw [e]; exact g1
    · rw [e]; rfl
    · rw [e]; exact g4
  have H12 : Hs h11 (logA q2 p (safeD d6 ⟨[⟨segName k, m + 1, m + 1 + 0, 16, true⟩], 0, true, k + 1⟩) ⟨[] ++ [⟨segName k, m + 1, m + 1 + 0, 16, false⟩], m + 1 + 0 - 1, false, k + 1⟩ :: [ro h]) := H12
  generalize safeD d6 ⟨[⟨segName k, m + 1, m + 1 + 0, 16, true⟩], 0, true, k + 1⟩ = d7 at *
  have so3 := o3.st
  obtain ⟨w1, _⟩ := o3.append (b := laidB (m + 1 + 0) (sb ⟨#[109, 111, 114, 101]⟩)) (by rw [head_len, laid_len]; decide)
  refine WAppend_hs (xs := []) (s := ⟨segName k, m + 1, m + 1 + 0, 16, false⟩) t o3.di (by omega) hl6 rfl (by decide) (by show 16 ≤ _; decide) w1 H12 fun h13 H13 => ⟨_, _, rfl, ?_⟩
  refine awake_hs t.cons tp.cons H13 fun h14 H14 => ⟨_, rfl, br_true rfl ?_⟩
  have ew1 : IntKind.i64.wrap (2 * IntKind.i64.wrap (IntKind.i64.wrap (16384 + ((dt.size : Nat) : Int)) + 100)) = 2 * (16384 + ((dt.size : Nat) : Int) + 100) := by
    rw [wrap_i64_z (z := 16384 + ((dt.size : Nat) : Int)) (by omega) (by omega), wrap_i64_z (z := 16384 + ((dt.size : Nat) : Int) + 100) (by omega) (by omega), wrap_i64_z (by omega) (by omega)]
  have ew2 : IntKind.i64.wrap (((m : Nat) : Int) + 1) = ((m + 1 : Nat) : Int) := by rw [wrap_i64_z (by omega) (by omega)]; omega
  rw [on]
  refine br_true rfl (br_true ?_ (br_true rfl ?_))
  · rw [ew1, ou]; simp; omega
  · dsimp only
    rw [ew2, show (((m + 1 + 0 : Nat) : Int) == ((m + 1 : Nat) : Int)) = true by simp]
    exact HQ _ H14.tl.ro_below
end Go.Proofs.YtjihchpobpgpeaaGreatDoor

set_option linter.unusedVariables false
set_option linter.unusedSimpArgs false
set_option maxRecDepth 100000
namespace Go.Proofs.YtjihchpobpgpeaaGreatDoor
open Go Go.HW
theorem laid_one {P : Program} {l : List (String × DataW Unit)} {W : World} (h : laidMetH P l W) (n : String) {d : DataW Unit} (e : (l.filter fun x => x.2.handleName?.isNone).filter (fun x => x.1 == n) = [(n, d)]) : laidMet P [(n, d)] W := by
  have := laidMet.filter (fun x => x.1 == n) ((laidMetH_iff.1 h).1)
  rwa [e] at this
theorem obj_of {W : World} {n : String} {cs : Array Value} {g : Nat} (hg : PP.globalNamed n = some g) (h : W.var? PP n = some cs) : ∃ t fz, W.heap[g]? = some (.cells cs t fz) := by
  unfold World.var? at h
  rw [hg, Option.bind_some] at h
  split at h
  · rename_i c t f e; injection h with h; subst h; exact ⟨_, _, e⟩
  · cases h
abbrev T_p_errors_errorString : TypeId := 141
abbrev T_errors_errorString : TypeId := 143
def kSteps : List Int := [0, 498536548, 997073096, 651767980, 1994146192, 1802195444, 1303535960, 1342533948, 3988292384, 4027552580, 3604390888, 3412177804, 2607071920, 2262029012, 2685067896, 3183342108]
/-- The row's own words, as what the proof reads. -/
theorem tab_of {W : World} (hk : laidMet PP [("haversack/little.steps", Rows.laid_haversack_little_steps)] W) (hp : laidMet PP [("internal/strconv.uint64pow10", Rows.laid_internal_strconv_uint64pow10)] W) : WTab W.heap := by
  refine ⟨?_, ?_⟩
  · have t : Lib.TabIs PP W "haversack/little.steps" .u32 kSteps := Lib.tabIs_of_head (rest := []) (by kernel_rfl : PP.globalNamed "haversack/little.steps" = some G_little_steps) (by kernel_rfl : _ = some T_16_uint32) (by kernel_rfl : PP.underlying T_16_uint32 = some (.array 16 T_uint32)) (by kernel_rfl : PP.underlying T_uint32 = some (.int .u32)) (by kernel_rfl) (by kernel_rfl) hk
    intro i hi
    have := t.cell (by kernel_rfl : PP.globalNamed "haversack/little.steps" = some G_little_steps) i (by simpa [kSteps] using hi)
    rw [cell_w] at this
    refine this.trans ?_
    have e : ∀ i : Nat, i < 16 → kSteps.getD i 0 = ((Crc.four (BitVec.ofNat 32 i)).toNat : Int) := by decide
    exact congrArg (fun z => some (Value.int .u32 z)) (e i hi)
  · have t : Lib.TabIs PP W "internal/strconv.uint64pow10" .u64 Lib.pow10Tab := Lib.tabIs_of_head (rest := []) (by kernel_rfl : PP.globalNamed "internal/strconv.uint64pow10" = some G_pow10) (by kernel_rfl : _ = some 158) (by kernel_rfl : PP.underlying 158 = some (.array 20 T_uint64)) (by kernel_rfl : PP.underlying T_uint64 = some (.int .u64)) (by kernel_rfl) (by kernel_rfl) hp
    exact obj_of (by kernel_rfl) t
theorem tab_all {l : List (String × DataW Unit)} {W : World} (h : laidMetH PP l W)
    (e1 : (l.filter fun x => x.2.handleName?.isNone).filter (fun x => x.1 == "haversack/little.steps") = [("haversack/little.steps", Rows.laid_haversack_little_steps)])
    (e2 : (l.filter fun x => x.2.handleName?.isNone).filter (fun x => x.1 == "internal/strconv.uint64pow10") = [("internal/strconv.uint64pow10", Rows.laid_internal_strconv_uint64pow10)]) : WTab W.heap :=
  tab_of (laid_one h _ e1) (laid_one h _ e2)
/-! ### A world in which all that is laid -/
def leafC : DataW Unit → List Value
  | .lit (.int k z) => [.int k z]
  | _ => []
def cellsD : DataW Unit → List Value
  | .agg l => l.flatMap fun
    | .agg m => m.flatMap leafC
    | d => leafC d
  | _ => []
def putC (g : Nat) (cs : List Value) (h : Heap) : Heap := h.modify g fun
  | .cells _ t f => .cells cs.toArray t f
  | o => o
end Go.Proofs.YtjihchpobpgpeaaGreatDoor

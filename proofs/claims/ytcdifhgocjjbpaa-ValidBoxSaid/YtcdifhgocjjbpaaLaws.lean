/- The laws More and Box. -/
import Derived.Test.YtcdifhgocjjbpaaAwake
set_option maxRecDepth 20000
set_option linter.unusedVariables false
set_option linter.unusedSimpArgs false
namespace Go.Proofs.Ytcdifhgocjjbpaa
open Go Go.HW
variable {h : Heap} {L : List Assn} {Q : Value → Heap → Prop}
theorem read_vi {v : VS} (h : VI v) (k : Key) : VI (v.read k) := ⟨fun x hx => by rcases mem_mset hx with rfl | hx; rfl; exact h.rd x hx, h.ls, h.st⟩
theorem list_vi {v : VS} (h : VI v) (k : Bx) : VI (v.list k) := ⟨h.rd, fun x hx => by rcases mem_mset hx with rfl | hx; rfl; exact h.ls x hx, h.st⟩
theorem new_vi (a : Int) : VI (.new a) := (Lk.new a).vi
theorem read_more {v : VS} {k : Key} {x : Cm} (h : v.clash x = true) : (v.read k).clash x = true := by
  unfold VS.clash at *
  rw [Bool.and_eq_true, List.any_eq_true] at *
  obtain ⟨h1, w, hw, hm⟩ := h
  refine ⟨h1, w, hw, ?_⟩
  unfold VS.meets at *
  show ((mget (mset v.rd k true) w.k).isSome || _) = true
  rw [isSome_mset]
  rw [Bool.or_eq_true] at *
  rcases hm with hm | hm
  · left; rw [hm, Bool.or_true]
  · right; exact hm
theorem list_more {v : VS} {b : Bx} {x : Cm} (h : v.clash x = true) : (v.list b).clash x = true := by
  unfold VS.clash at *
  rw [Bool.and_eq_true, List.any_eq_true] at *
  obtain ⟨h1, w, hw, hm⟩ := h
  refine ⟨h1, w, hw, ?_⟩
  unfold VS.meets at *
  show (_ || (mget (mset v.ls b true) _).isSome) = true
  rw [isSome_mset]
  rw [Bool.or_eq_true] at *
  rcases hm with hm | hm
  · left; exact hm
  · right; rw [hm, Bool.or_true]
theorem ValidMore_spec {at_ : Int} {ka ba : OA} {kn kc bn bc : Nat} {ks : List Key} {bs : List Bx} {x : Cm} (hr : Rd h ka (ks.flatMap keyV)) (hn : ks.length = kn) (hr2 : Rd h ba (bs.flatMap bxV)) (hn2 : bs.length = bn)
    (hx1 : Rd h x.a (x.ws.flatMap wrV)) (hx2 : x.ws.length = x.n) (hx3 : x.n < 2 ^ 60) (HQ : ∀ h', ExtB h.size h h' → Q (.bool true) h') :
    SpecH PP F_law13_ValidMore [.int .i64 at_, .slice ka kn kc, .slice ba bn bc, .agg (cmV x).toArray] h Q := by
  refine law13_ValidMore.door ?_
  dsimp only
  have H := (Hs.start h).new (t := T_api_Commit) (cs := (cmV x).toArray) (xs := cmV x)
  have fin : ∀ {h' : Heap} {M : List Assn}, Hs h' (ro h :: M) → Q (.bool true) h' := fun H => HQ _ H.ro_below
  generalize Array.size h = c7 at H ⊢
  have gk : Gv [pt c7 T_api_Commit (cmV x), ro h] ka (ks.flatMap keyV) := (Gv.ro hr).cons
  have gb : Gv [pt c7 T_api_Commit (cmV x), ro h] ba (bs.flatMap bxV) := (Gv.ro hr2).cons
  have ok : CmOk [pt c7 T_api_Commit (cmV x), ro h] x := ⟨(Gv.ro hx1).cons, hx2, hx3⟩
  have main : ∀ b : Bool, (b = false → kn ≤ 1000 ∧ bn ≤ 1000) → ∀ {hh : Heap}, Hs hh [pt c7 T_api_Commit (cmV x), ro h] → law13_ValidMore.J1 at_ ka kn kc ba bn bc ⟨c7, 0, none⟩ b Q hh := by
    intro b hb hh H
    refine law13_ValidMore.J1_of ((br_iff _ _ _).2 ⟨fun e => fin H.tl, fun e => ?_⟩)
    obtain ⟨b1, b2⟩ := hb e
    refine New_hs H fun h1 s H1 => ⟨_, rfl, br_false rfl ⟨_, _, _, _, H1.m1.rdc0, ?_⟩⟩
    refine Clash_hs (new_vi at_) ok H1 fun h2 H2 => ⟨_, rfl, ?_⟩
    have c0 : (VS.new at_).clash x = false := by
      unfold VS.clash; rw [Bool.and_eq_false_iff]; right; rw [List.any_eq_false]; intro w _; simp [VS.meets, VS.new, mget_nil]
    rw [c0]
    refine br_false rfl ?_
    -- the boxes
    have two : ∀ (r i : Nat) {v : VS} {hh : Heap}, r + i = bn → v.at_ = at_ → VI v → Hs hh [setA s v, pt c7 T_api_Commit (cmV x), ro h] → law13_ValidMore.L2 at_ ba bn bc ⟨c7, 0, none⟩ (some ⟨s, 0, none⟩) (v.clash x) (i : Int) (law13_ValidMore.K4 Q) hh := by
      intro r
      induction r with
      | zero =>
        intro i v hh hi hat hv H
        refine law13_ValidMore.L2_of (br_false (decide_eq_false (by omega)) (law13_ValidMore.L2_X2 ?_))
        refine awake_hs H fun h5 H5 => ⟨_, rfl, br_true rfl ⟨_, H5.m1.cell (off := 0) rfl, (br_iff _ _ _).2 ⟨fun e => fin H5.tl.tl, fun e => ?_⟩⟩⟩
        have : v.clash x = false := by unfold VS.clash; rw [hat, e]; rfl
        rw [this]
        exact fin H5.tl.tl
      | succ r ih =>
        intro i v hh hi hat hv H
        refine law13_ValidMore.L2_of (br_true (decide_eq_true (by omega)) ?_)
        refine idxf E_sl_api_Box (φ := bxV) (l := bs) (x := bs[i]) (gb _ H.tl) bxV_len (by decide) (by omega) (by omega) (by simp) fun t ht => ⟨_, _, ht, ?_⟩
        refine List_hs (b := bs[i]) H fun h5 H5 => ⟨rfl, _, _, _, _, H5.m1.rdc0, ?_⟩
        refine Clash_hs (list_vi hv _) ok H5 fun h6 H6 => ⟨_, rfl, ?_⟩
        have J : law13_ValidMore.J3 at_ ba bn bc ⟨c7, 0, none⟩ (some ⟨s, 0, none⟩) (i : Int) ((v.list bs[i]).clash x) false (law13_ValidMore.K4 Q) h6 := by
          refine law13_ValidMore.J3_of (br_false rfl ?_)
          rw [i1 (i := i) (by omega)]
          exact ih (i + 1) (by omega) hat (list_vi hv _) H6
        refine (br_iff _ _ _).2 ⟨fun e => ?_, fun e => J⟩
        have e2 : (!(v.list bs[i]).clash x) = false := by rw [list_more e]; rfl
        dsimp only
        rw [e2]; exact J
    have one : ∀ (r i : Nat) {v : VS} {hh : Heap}, r + i = kn → v.at_ = at_ → VI v → Hs hh [setA s v, pt c7 T_api_Commit (cmV x), ro h] → law13_ValidMore.L1 at_ ka kn kc ba bn bc ⟨c7, 0, none⟩ (some ⟨s, 0, none⟩) (v.clash x) (i : Int) (law13_ValidMore.K2 Q) hh := by
      intro r
      induction r with
      | zero =>
        intro i v hh hi hat hv H
        exact law13_ValidMore.L1_of (br_false (decide_eq_false (by omega)) (law13_ValidMore.L1_X0 (two bn 0 (by omega) hat hv H)))
      | succ r ih =>
        intro i v hh hi hat hv H
        refine law13_ValidMore.L1_of (br_true (decide_eq_true (by omega)) ?_)
        refine idxf E_sl_api_Key (φ := keyV) (l := ks) (x := ks[i]) (gk _ H.tl) keyV_len (by decide) (by omega) (by omega) (by simp) fun t ht => ⟨_, _, _, ht, ?_⟩
        refine Read_hs (k := ks[i]) H fun h5 H5 => ⟨rfl, _, _, _, _, H5.m1.rdc0, ?_⟩
        refine Clash_hs (read_vi hv _) ok H5 fun h6 H6 => ⟨_, rfl, ?_⟩
        have J : law13_ValidMore.J2 at_ ka kn kc ba bn bc ⟨c7, 0, none⟩ (some ⟨s, 0, none⟩) (i : Int) ((v.read ks[i]).clash x) false (law13_ValidMore.K2 Q) h6 := by
          refine law13_ValidMore.J2_of (br_false rfl ?_)
          rw [i1 (i := i) (by omega)]
          exact ih (i + 1) (by omega) hat (read_vi hv _) H6
        refine (br_iff _ _ _).2 ⟨fun e => ?_, fun e => J⟩
        have e2 : (!(v.read ks[i]).clash x) = false := by rw [read_more e]; rfl
        dsimp only
        rw [e2]; exact J
    have := one kn 0 (by omega) rfl (new_vi at_) H2
    rw [c0] at this
    exact this
  refine (br_iff _ _ _).2 ⟨fun e => main true (fun h => by cases h) H, fun e => (br_iff _ _ _).2 ⟨fun e2 => main true (fun h => by cases h) H, fun e2 => ⟨_, _, _, H.cell (off := 1) rfl, main _ (fun _ => ?_) H⟩⟩⟩
  have e := of_decide_eq_false e
  have e2 := of_decide_eq_false e2
  omega
end Go.Proofs.Ytcdifhgocjjbpaa

/- The laws of chapter 01, as contracts. -/
import Derived.Test.YtbkbipfcohmpcaaBits
import Derived.Test.YtbkbipfcohmpcaaSpoil
import Derived.Test.YtbkbipfcohmpcaaRef01
import Derived.Test.YtbkbipfcohmpcaaHwOpen
set_option linter.unusedVariables false
set_option linter.unusedSimpArgs false
namespace Go.Proofs.Ytbkbipfcohmpcaa
open Go Go.HW
theorem awake_spec {h : Heap} {L : List Assn} {Q : Value → Heap → Prop} (H : Hs h L) (kk : ∀ h', Hs h' L → Q (.bool true) h') : SpecH PP F_law01_awake [] h Q := by
  refine law01_awake_door ?_
  unfold law01_awake_main
  refine NewWriter_spec H fun h1 p H1 => ⟨_, rfl, ?_⟩
  have H2 : Hs (h1.push (.cells #[.int .u8 180, .int .u8 1] T_uint8 (0, 0))) (pt h1.size T_uint8 (nV [180, 1]) :: Wr p 0 0 :: L) := H1.new
  refine NewReader_spec H2 (bs := [180, 1]) (H2.ptrd rfl) rfl (by simp) (by simp) (by omega) fun h3 r H3 => ⟨_, rfl, br_false rfl (law01_awake_J11101_of (br_false rfl ?_))⟩
  refine Put_spec (v := 5) (n := 3) H3.m2 (by omega) (by omega) (by omega) fun h4 H4 => ⟨_, rfl, ?_⟩
  refine Put_spec (v := 1) (n := 1) H4 (by omega) (by omega) (by omega) fun h5 H5 => ⟨_, rfl, ?_⟩
  refine Put_bad (v := 8) (n := 3) (by omega) (by simp) ⟨_, rfl, ?_⟩
  refine Take_spec (n := 2) H5.m1 (by omega) (by simp) fun h6 H6 => ⟨_, _, rfl, ?_⟩
  refine Take_spec (n := 4) H6 (by omega) (by simp) fun h7 H7 => ⟨_, _, rfl, ?_⟩
  refine Take_spec (n := 3) H7 (by omega) (by simp) fun h8 H8 => ⟨_, _, rfl, ?_⟩
  refine Take_end (n := 8) H8 (by omega) (by simp) ⟨_, _, rfl, ?_⟩
  refine br_true rfl (br_true rfl (br_true rfl (Len_spec H8.m1 ⟨_, rfl, br_true rfl ?_⟩)))
  refine Bytes_spec H8.m1 fun h9 b H9 => ⟨_, _, _, rfl, ?_⟩
  have H10 : Hs (h9.push (.cells #[.int .u8 13] T_uint8 (0, 0))) (pt h9.size T_uint8 (nV [13]) :: _) := H9.new
  refine keepBytes_spec (ys := [13]) H10.m1.rd (H10.ptrd rfl) (by rw [dig_len]) rfl (by omega) ⟨_, rfl, ?_⟩
  refine law01_awake_J111111111111_of (br_true (by decide) (br_true rfl (br_true rfl (br_true rfl (br_true (by decide) (br_true (by decide) (br_true (by decide) (br_true rfl ?_))))))))
  refine Left_spec H10.m3 ⟨_, rfl, ?_⟩
  exact kk _ H10.tl.tl.tl.tl.tl

/-! ### What is written -/
structure WOp where
  k : Int
  v : Nat
  n : Int
def wopV (o : WOp) : List Value := [.int .i64 o.k, .int .u32 o.v, .int .i64 o.n]
theorem open_wop {W : World} {ecs : List Value} (hl : ecs.length = 3) (g : Dat PP W T_haversacklaw01_WOp ecs) : ∃ x, ecs = wopV x ∧ x.v < 4294967296 := by
  match ecs, hl with
  | [a, b, c], _ =>
    have f := g.fields
    rw [FL_haversacklaw01_WOp] at f
    obtain ⟨k, e1, _⟩ := (f (T_int, 0, 1) (by simp)).i64 U_int
    obtain ⟨v, e2, hv⟩ := (f (T_uint32, 1, 1) (by simp)).u32 U_uint32
    obtain ⟨n, e3, _⟩ := (f (T_int, 2, 1) (by simp)).i64 U_int
    simp at e1 e2 e3
    subst e1 e2 e3
    exact ⟨⟨k, v, n⟩, rfl, hv⟩
theorem bw_step {h0 : Heap} {a : Option Addr} {n c p : Nat} {Q : Value → Heap → Prop} {bl : List Nat} {la : Option Addr} {lc : Nat} {h : Heap} {i : Nat} (hi : i < 2 ^ 40) (hlen : bl.length < 2 ^ 40)
    (H : Hs h [Wr p (numb bl) bl.length, own la bl.length lc T_uint8 1 (nV bl), ro h0])
    (kk : law01_BitsWrites_L11111010 a n c (some ⟨p, 0, none⟩) la bl.length lc ((i + 1 : Nat) : Int) (law01_BitsWrites_K1111101 Q) h) :
    law01_BitsWrites_J11111010010011 a n c (some ⟨p, 0, none⟩) la bl.length lc i (law01_BitsWrites_K1111101 Q) h := by
  refine law01_BitsWrites_J11111010010011_of (Len_spec H ⟨_, rfl, br_false (by simp) ?_⟩)
  simp only [inc (show i < 2 ^ 62 by omega)]
  exact kk
theorem bw_loop {h0 : Heap} {a : Option Addr} {n c p : Nat} {l : List WOp} {Q : Value → Heap → Prop} (hr : Rd h0 a (l.flatMap wopV)) (hn : l.length = n) (hmax : n ≤ 5000) (hw : ∀ o ∈ l, o.v < 4294967296) (HQ : ∀ h', ExtB h0.size h0 h' → Q (.bool true) h') :
    ∀ (k i : Nat) {bl : List Nat} {la : Option Addr} {lc : Nat} {h : Heap}, i + k = n → bl.length ≤ 40 * i → (∀ x ∈ bl, x < 2) → Hs h [Wr p (numb bl) bl.length, own la bl.length lc T_uint8 1 (nV bl), ro h0] →
      law01_BitsWrites_L11111010 a n c (some ⟨p, 0, none⟩) la bl.length lc i (law01_BitsWrites_K1111101 Q) h := by
  intro k
  induction k with
  | zero =>
    intro i bl la lc h hi hb h2 H
    refine law01_BitsWrites_L11111010_of (br_false (decide_eq_false (by omega)) ?_)
    rw [law01_BitsWrites_at11111010_X0]
    refine awake_spec H fun h1 H1 => ⟨_, rfl, br_true rfl ?_⟩
    refine Bytes_spec H1 fun h3 b H3 => ⟨_, _, _, rfl, ?_⟩
    have H4 := H3.m2
    refine rbytes_spec H4 Gv.own rfl (by omega) h2 fun h5 o oc H5 => ⟨_, _, _, rfl, ?_⟩
    refine keepBytes_spec H5.m2.rd H5.rd (by rw [dig_len]) (by rw [dig_len]) (by omega) ⟨_, rfl, ?_⟩
    rw [decide_eq_true rfl]
    exact HQ _ H5.tl.tl.tl.tl.ro_below
  | succ k ih =>
    intro i bl la lc h hi hb h2 H
    have hil : i < l.length := by omega
    have hwv := hw _ (List.getElem_mem hil)
    have next : ∀ {bl : List Nat} {la : Option Addr} {lc : Nat} {h : Heap}, bl.length ≤ 40 * (i + 1) → (∀ x ∈ bl, x < 2) → Hs h [Wr p (numb bl) bl.length, own la bl.length lc T_uint8 1 (nV bl), ro h0] →
        law01_BitsWrites_J11111010010011 a n c (some ⟨p, 0, none⟩) la bl.length lc i (law01_BitsWrites_K1111101 Q) h := fun hb h2 H => bw_step (by omega) (by omega) H (ih (i + 1) (by omega) hb h2 H)
    refine law01_BitsWrites_L11111010_of (br_true (decide_eq_true (by omega)) ?_)
    refine idxf E_sl_haversacklaw01_WOp (l := l) (φ := wopV) (x := l[i]) (H.tl.tl.ro_rd hr) (fun _ => rfl) (by omega) (by omega) (by omega) (by simp) fun t ht => ⟨_, _, _, ht, ?_⟩
    have H1 : Hs (h.push (.cells #[.int .i64 0, .int .u32 0, .int .i64 0] T_haversacklaw01_WOp (0, 0))) (pt h.size T_haversacklaw01_WOp [.int .i64 0, .int .u32 0, .int .i64 0] :: _) := H.new
    refine H1.wrs fun h3 H3 => ⟨_, H3.cell (off := 0) rfl, ?_⟩
    refine (br_iff _ _ _).2 ⟨fun h1 => ?_, fun h1 => (br_iff _ _ _).2 ⟨fun h1 => ?_, fun h1 => ?_⟩⟩
    · refine ⟨_, H3.cell (off := 1) rfl, _, H3.cell (off := 2) rfl, ?_⟩
      refine may_spec hwv ⟨_, rfl, (br_iff _ _ _).2 ⟨fun hm => ?_, fun hm => ?_⟩⟩
      · obtain ⟨m1, m2, m3⟩ := of_decide_eq_true hm
        refine ⟨_, H3.cell (off := 1) rfl, _, H3.cell (off := 2) rfl, ?_⟩
        obtain ⟨m, hm⟩ := Int.eq_ofNat_of_zero_le m1
        rw [hm] at m2 m3 H3 ⊢
        refine rput_spec (n := m) H3.m2 (by omega) hwv (by omega) fun h5 a5 c5 H5 => ⟨_, _, _, rfl, ?_⟩
        have hv : l[i].v < 2 ^ m := by simpa using m3
        refine law01_BitsWrites_J11111010010010101011_of ⟨_, H5.m1.cell (off := 1) rfl, _, H5.m1.cell (off := 2) rfl, ?_⟩
        refine Put_spec (n := m) H5.m2 (by omega) hv (by omega) fun h6 H6 => ⟨_, rfl, br_false rfl ?_⟩
        have e1 : numb bl + l[i].v * 2 ^ bl.length = numb (bl ++ bitsN m l[i].v) := by rw [numb_app, numb_bitsN hv, Nat.mul_comm]
        have e2 : bl.length + m = (bl ++ bitsN m l[i].v).length := by simp [bitsN_len]
        rw [e1, e2] at H6
        rw [e2]
        refine next (by simp [bitsN_len]; omega) (fun x hx => ?_) H6.m2.tl
        rcases List.mem_append.1 hx with hx | hx
        · exact h2 x hx
        · exact bitsN_lt hx
      · refine law01_BitsWrites_J11111010010010101011_of ⟨_, H3.cell (off := 1) rfl, _, H3.cell (off := 2) rfl, ?_⟩
        exact Put_bad hwv (of_decide_eq_false hm) ⟨_, rfl, br_false rfl (next (by omega) h2 H3.tl)⟩
    · refine ralign_spec H3.m2 (by omega) fun h5 a5 c5 d hd H5 => ⟨_, _, _, rfl, ?_⟩
      refine WAlign_spec H5.m2 (by omega) fun h6 H6 => ⟨_, rfl, br_false rfl ?_⟩
      have e1 : numb bl = numb (bl ++ List.replicate d 0) := by rw [numb_app, numb_zeros]; simp
      have e2 : bl.length + d = (bl ++ List.replicate d 0).length := by simp
      rw [← hd, e2, e1] at H6
      rw [e2]
      refine next (by simp; omega) (fun x hx => ?_) H6.m2.tl
      rcases List.mem_append.1 hx with hx | hx
      · exact h2 x hx
      · rw [List.mem_replicate] at hx; omega
    · refine Bytes_spec H3.m1 fun h5 b H5 => ⟨_, _, _, rfl, ?_⟩
      have H6 := H5.m3
      refine rbytes_spec H6 Gv.own rfl (by omega) h2 fun h7 o oc H7 => ⟨_, _, _, rfl, ?_⟩
      refine keepBytes_spec H7.m2.rd H7.rd (by rw [dig_len]) (by rw [dig_len]) (by omega) ⟨_, rfl, br_false (by simp) ?_⟩
      refine spoil_spec H7.m2 (fun x hx => dig_lt hx) (by omega) fun h8 H8 => ⟨rfl, ?_⟩
      exact next (by omega) h2 (H8.tl.m2.tl.m1)
theorem BitsWrites_spec {h : Heap} {a : Option Addr} {n c : Nat} {l : List WOp} {Q : Value → Heap → Prop} (hr : Rd h a (l.flatMap wopV)) (hn : l.length = n) (hw : ∀ o ∈ l, o.v < 4294967296) (HQ : ∀ h', ExtB h.size h h' → Q (.bool true) h') :
    SpecH PP F_law01_BitsWrites [.slice a n c] h Q := by
  refine law01_BitsWrites_door ?_
  unfold law01_BitsWrites_main
  refine (br_iff _ _ _).2 ⟨fun _ => HQ h (ExtB.refl _ _), fun hb => ?_⟩
  have hb := of_decide_eq_false hb
  refine NewWriter_spec (Hs.start h) fun h1 p H1 => ⟨_, rfl, br_false rfl ?_⟩
  exact bw_loop (bl := []) hr hn (by omega) hw HQ n 0 (by omega) (by simp) (by simp) (H1.own_nil T_uint8 1).m1

/-! ### What is taken and put -/
theorem bb_fin {h0 : Heap} {a : Option Addr} {n c p r : Nat} {bs : List Nat} {Q : Value → Heap → Prop} (hr : Rd h0 a (nV bs)) (hn : bs.length = n) (hmax : n ≤ 16384) (hb : ∀ x ∈ bs, x < 256) (HQ : ∀ h', ExtB h0.size h0 h' → Q (.bool true) h') {h : Heap}
    (H : Hs h [Wr p (val bs % 2 ^ (8 * n)) (8 * n), Rr r bs (8 * n), ro h0]) :
    SpecH PP F_law01_awake [] h (fun v h1 => ∃ (t79 : Bool), v = (.bool t79) ∧
     br t79 (
     SpecH PP F_bits_Writer_Bytes [(.pointer (some ⟨p, 0, none⟩))] h1 (fun v_1 h2 => ∃ (t82 : Option Addr) (t82n : Nat) (t82c : Nat), v_1 = (.slice t82 t82n t82c) ∧
     SpecH PP F_keep_Bytes [(.slice t82 t82n t82c), (.slice a n c)] h2 (fun v_2 h3 => ∃ (t84 : Bool), v_2 = (.bool t84) ∧
     br t84 (
     SpecH PP F_bits_Reader_Gone [(.pointer (some ⟨r, 0, none⟩))] h3 (fun v_3 h4 => ∃ (t88 : Int), v_3 = (.int .i64 t88) ∧
     let t91 : Int := IntKind.i64.wrap (8 * (n : Int))
     let t92 : Bool := (t88 == t91)
     Q (.bool t92) h4)) (
     Q (.bool false) h3)))) (
     Q (.bool false) h1)) := by
  refine awake_spec H fun h1 H1 => ⟨_, rfl, br_true rfl ?_⟩
  refine Bytes_spec H1 fun h2 b H2 => ⟨_, _, _, rfl, ?_⟩
  refine keepBytes_spec H2.rd (H2.m3.ro_rd hr) (by rw [dig_len]) hn (by omega) ⟨_, rfl, ?_⟩
  have e : dig (val bs % 2 ^ (8 * n)) ((8 * n + 7) / 8) = bs := by
    rw [show (8 * n + 7) / 8 = n by omega, ← pow256, ← hn]
    have := val_lt hb
    rw [Nat.mod_eq_of_lt this]; exact dig_val hb
  refine br_true (decide_eq_true e) (Gone_spec H2.m2 ⟨_, rfl, ?_⟩)
  have e2 : (((8 * n : Nat) : Int) == IntKind.i64.wrap (8 * (n : Int))) = true := by rw [wrap_i64_z (by omega) (by omega)]; exact beq_iff_eq.2 (by omega)
  simp only [e2]
  exact HQ _ H2.tl.tl.tl.ro_below
theorem bb_end {h0 : Heap} {a s : Option Addr} {n c sn sc p r : Nat} {bs : List Nat} {Q : Value → Heap → Prop} (hr : Rd h0 a (nV bs)) (hn : bs.length = n) (hmax : n ≤ 16384) (hb : ∀ x ∈ bs, x < 256) (HQ : ∀ h', ExtB h0.size h0 h' → Q (.bool true) h') {i : Nat} {h : Heap}
    (H : Hs h [Wr p (val bs % 2 ^ (8 * n)) (8 * n), Rr r bs (8 * n), ro h0]) : law01_BitsBytes_L11111010 a n c s sn sc (some ⟨p, 0, none⟩) (some ⟨r, 0, none⟩) i (law01_BitsBytes_K1111101 Q) h := by
  refine law01_BitsBytes_L11111010_of (Left_spec H.m1 ⟨_, rfl, br_false (decide_eq_false (by omega)) ?_⟩)
  rw [law01_BitsBytes_at11111010_X0]
  exact bb_fin hr hn hmax hb HQ H
theorem bb_loop {h0 : Heap} {a s : Option Addr} {n c sn sc p r : Nat} {bs : List Nat} {l : List Int} {Q : Value → Heap → Prop} (hr : Rd h0 a (nV bs)) (hn : bs.length = n) (hmax : n ≤ 16384) (hb : ∀ x ∈ bs, x < 256) (hs : Rd h0 s (l.map fun z => .int .i64 z)) (hsn : l.length = sn) (hsm : sn ≤ 5000) (HQ : ∀ h', ExtB h0.size h0 h' → Q (.bool true) h') :
    ∀ (k at_ i : Nat) {h : Heap}, 8 * n - at_ ≤ k → at_ ≤ 8 * n → i ≤ at_ → Hs h [Wr p (val bs % 2 ^ at_) at_, Rr r bs at_, ro h0] →
      law01_BitsBytes_L11111010 a n c s sn sc (some ⟨p, 0, none⟩) (some ⟨r, 0, none⟩) i (law01_BitsBytes_K1111101 Q) h := by
  intro k
  induction k with
  | zero =>
    intro at_ i h hk hat hi H
    obtain rfl : at_ = 8 * n := by omega
    exact bb_end hr hn hmax hb HQ H
  | succ k ih =>
    intro at_ i h hk hat hi H
    refine law01_BitsBytes_L11111010_of (Left_spec H.m1 ⟨_, rfl, ?_⟩)
    refine (br_iff _ _ _).2 ⟨fun hlt => ?_, fun hge => ?_⟩
    · have hlt := of_decide_eq_true hlt
      -- so many bits are taken and put
      have go : ∀ m : Nat, 1 ≤ m → m ≤ 32 → at_ + m ≤ 8 * n → law01_BitsBytes_J11111010010011 a n c s sn sc (some ⟨p, 0, none⟩) (some ⟨r, 0, none⟩) i m (law01_BitsBytes_K1111101 Q) h := by
        intro m h1 h2 h3
        refine law01_BitsBytes_J11111010010011_of ?_
        refine Take_spec H.m1 h2 (by omega) fun h4 H4 => ⟨_, _, rfl, br_false rfl ?_⟩
        refine Put_spec H4.m1 h2 (Nat.mod_lt _ (Nat.pow_pos (by decide))) (by omega) fun h5 H5 => ⟨_, rfl, law01_BitsBytes_J1111101001001111_of (br_false rfl ?_)⟩
        simp only [inc (show i < 2 ^ 62 by omega)]
        rw [join_eq] at H5
        exact ih (at_ + m) (i + 1) (by omega) (by omega) (by omega) H5
      have one : law01_BitsBytes_J111110100100101 a n c s sn sc (some ⟨p, 0, none⟩) (some ⟨r, 0, none⟩) i 1 false (law01_BitsBytes_K1111101 Q) h :=
        law01_BitsBytes_J111110100100101_of (br_false rfl (go 1 (by omega) (by omega) (by omega)))
      refine (br_iff _ _ _).2 ⟨fun hi1 => ?_, fun _ => ⟨one, one, trivial⟩⟩
      have hi1 := of_decide_eq_true hi1
      have hil : i < l.length := by omega
      have hs1 := H.tl.tl.ro_rd hs
      have rd := fun {R : Addr → Heap → Prop} => idx E_sl_int (k := .i64) (c := sc) (n := sn) (i := i) (v := .int .i64 l[i]) hs1 (by omega) (by omega) (by rw [Int.toNat_natCast]; simp [hil]) (R := R)
      refine rd fun t ht => ⟨_, ht, ?_⟩
      refine (br_iff _ _ _).2 ⟨fun g1 => ?_, fun _ => ⟨one, one, trivial⟩⟩
      refine rd fun t ht => ⟨_, ht, ?_⟩
      refine (br_iff _ _ _).2 ⟨fun g2 => ?_, fun _ => ⟨one, one, trivial⟩⟩
      have g1 := of_decide_eq_true g1
      have g2 := of_decide_eq_true g2
      have both : ∀ b : Bool, b = decide (l[i] ≤ ((8 * bs.length - at_ : Nat) : Int)) → law01_BitsBytes_J111110100100101 a n c s sn sc (some ⟨p, 0, none⟩) (some ⟨r, 0, none⟩) i 1 b (law01_BitsBytes_K1111101 Q) h := by
        rintro b rfl
        refine law01_BitsBytes_J111110100100101_of ((br_iff _ _ _).2 ⟨fun g3 => ?_, fun _ => go 1 (by omega) (by omega) (by omega)⟩)
        have g3 := of_decide_eq_true g3
        refine rd fun t ht => ⟨_, ht, ?_⟩
        obtain ⟨m, hm⟩ := Int.eq_ofNat_of_zero_le (show 0 ≤ l[i] by omega)
        rw [hm] at g1 g2 g3 ⊢
        exact go m (by omega) (by omega) (by omega)
      refine rd fun t ht => ⟨⟨_, ht, Left_spec H.m1 ⟨_, rfl, both _ rfl⟩⟩, Left_spec H.m1 ⟨_, rfl, _, ht, both _ rfl⟩, trivial⟩
    · have hge := of_decide_eq_false hge
      obtain rfl : at_ = 8 * n := by omega
      rw [law01_BitsBytes_at11111010_X0]
      exact bb_fin hr hn hmax hb HQ H
theorem BitsBytes_spec {h : Heap} {a s : Option Addr} {n c sn sc : Nat} {bs : List Nat} {l : List Int} {Q : Value → Heap → Prop} (hr : Rd h a (nV bs)) (hn : bs.length = n) (hn0 : a = none → n = 0) (hb : ∀ x ∈ bs, x < 256) (hs : Rd h s (l.map fun z => .int .i64 z)) (hsn : l.length = sn) (HQ : ∀ h', ExtB h.size h h' → Q (.bool true) h') :
    SpecH PP F_law01_BitsBytes [.slice a n c, .slice s sn sc] h Q := by
  refine law01_BitsBytes_door ?_
  unfold law01_BitsBytes_main
  refine (br_iff _ _ _).2 ⟨fun _ => law01_BitsBytes_J101_of (br_true rfl (HQ h (ExtB.refl _ _))), fun hb1 => law01_BitsBytes_J101_of ((br_iff _ _ _).2 ⟨fun _ => HQ h (ExtB.refl _ _), fun hb2 => ?_⟩)⟩
  have hb1 := of_decide_eq_false hb1
  have hb2 := of_decide_eq_false hb2
  refine NewWriter_spec (Hs.start h) fun h1 p H1 => ⟨_, rfl, ?_⟩
  refine NewReader_spec H1 (H1.tl.ro_rd hr) hn hn0 hb (by omega) fun h2 r H2 => ⟨_, rfl, br_false rfl (law01_BitsBytes_J111101_of (br_false rfl ?_))⟩
  exact bb_loop hr hn (by omega) hb hs hsn (by omega) HQ (8 * n) 0 0 (by omega) (by omega) (by omega) (by simpa [Nat.mod_one] using H2.m1)

/-! ### No writer, no reader -/
theorem RTake_nil {n : Int} {h : Heap} {Q : Value → Heap → Prop} (kk : Q (.tuple #[.int .u32 0, .int .i64 3]) h) : SpecH PP F_bits_Reader_Take [.pointer none, .int .i64 n] h Q := bits_Reader_Take_door (by unfold bits_Reader_Take_main; exact br_true rfl kk)
theorem WAlign_nil {h : Heap} {Q : Value → Heap → Prop} (kk : Q (.int .i64 3) h) : SpecH PP F_bits_Writer_Align [.pointer none] h Q := bits_Writer_Align_door (by unfold bits_Writer_Align_main; exact br_true rfl kk)
theorem WLen_nil {h : Heap} {Q : Value → Heap → Prop} (kk : Q (.int .i64 0) h) : SpecH PP F_bits_Writer_Len [.pointer none] h Q := bits_Writer_Len_door (by unfold bits_Writer_Len_main; exact br_true rfl kk)
theorem WBytes_nil {h : Heap} {Q : Value → Heap → Prop} (kk : Q (.slice none 0 0) h) : SpecH PP F_bits_Writer_Bytes [.pointer none] h Q := bits_Writer_Bytes_door (by unfold bits_Writer_Bytes_main; exact br_true rfl kk)
theorem RMore_nil {a : Option Addr} {an c : Nat} {h : Heap} {Q : Value → Heap → Prop} (kk : Q (.int .i64 3) h) : SpecH PP F_bits_Reader_More [.pointer none, .slice a an c] h Q := bits_Reader_More_door (by unfold bits_Reader_More_main; exact br_true rfl kk)
theorem RAlign_nil {h : Heap} {Q : Value → Heap → Prop} (kk : Q (.int .i64 3) h) : SpecH PP F_bits_Reader_Align [.pointer none] h Q := bits_Reader_Align_door (by unfold bits_Reader_Align_main; exact br_true rfl kk)
theorem RBack_nil {n : Int} {h : Heap} {Q : Value → Heap → Prop} (kk : Q (.int .i64 3) h) : SpecH PP F_bits_Reader_Back [.pointer none, .int .i64 n] h Q := bits_Reader_Back_door (by unfold bits_Reader_Back_main; exact br_true rfl kk)
theorem RLeft_nil {h : Heap} {Q : Value → Heap → Prop} (kk : Q (.int .i64 0) h) : SpecH PP F_bits_Reader_Left [.pointer none] h Q := bits_Reader_Left_door (by unfold bits_Reader_Left_main; exact br_true rfl kk)
theorem RGone_nil {h : Heap} {Q : Value → Heap → Prop} (kk : Q (.int .i64 0) h) : SpecH PP F_bits_Reader_Gone [.pointer none] h Q := bits_Reader_Gone_door (by unfold bits_Reader_Gone_main; exact br_true rfl kk)
theorem BitsNil_spec {h : Heap} {v : Nat} {n : Int} {Q : Value → Heap → Prop} (HQ : ∀ h', ExtB h.size h h' → Q (.bool true) h') : SpecH PP F_law01_BitsNil [.int .u32 v, .int .i64 n] h Q := by
  refine law01_BitsNil_door ?_
  unfold law01_BitsNil_main
  refine RTake_nil ⟨_, _, rfl, ?_⟩
  refine awake_spec (Hs.start h) fun h1 H1 => ⟨_, rfl, br_true rfl ?_⟩
  refine Put_nil ⟨_, rfl, br_true rfl ?_⟩
  refine WAlign_nil ⟨_, rfl, br_true rfl ?_⟩
  refine WLen_nil ⟨_, rfl, br_true rfl ?_⟩
  refine WBytes_nil ⟨_, _, _, rfl, br_true rfl (br_true rfl (br_true rfl ?_))⟩
  refine RMore_nil ⟨_, rfl, br_true rfl ?_⟩
  refine RAlign_nil ⟨_, rfl, br_true rfl ?_⟩
  refine RBack_nil ⟨_, rfl, br_true rfl ?_⟩
  refine RLeft_nil ⟨_, rfl, br_true rfl ?_⟩
  refine RGone_nil ⟨_, rfl, ?_⟩
  exact HQ _ H1.ro_below

/-! ### What is put is taken again -/
/-- May this be put? -/
def WOp.ok (o : WOp) : Prop := 0 ≤ o.n ∧ o.n ≤ 32 ∧ o.v < 2 ^ o.n.toNat
instance (o : WOp) : Decidable o.ok := by unfold WOp.ok; infer_instance
/-- The number of what is put, and its bits. -/
def putL : List WOp → Nat × Nat
  | [] => (0, 0)
  | o :: l => if o.ok then (o.v + 2 ^ o.n.toNat * (putL l).1, o.n.toNat + (putL l).2) else putL l
theorem putL_len (l : List WOp) : (putL l).2 ≤ 32 * l.length := by
  induction l with
  | nil => simp [putL]
  | cons o l ih =>
    simp only [putL, List.length_cons]
    split
    · rename_i h; have := h.2.1; have := h.1; simp only; omega
    · omega
theorem br_put {h0 : Heap} {a : Option Addr} {n c p : Nat} {cut : Int} {l : List WOp} {Q : Value → Heap → Prop} (hr : Rd h0 a (l.flatMap wopV)) (hn : l.length = n) (hmax : n ≤ 5000) (hw : ∀ o ∈ l, o.v < 4294967296)
    (kk : ∀ h, Hs h [Wr p (putL l).1 (putL l).2, ro h0] → law01_BitsRound_K111101 Q (.exit 0) (law01_BitsRound_X0 a n c cut (some ⟨p, 0, none⟩)) h) :
    ∀ (k i N len : Nat) {h : Heap}, i + k = n → len ≤ 32 * i → N + (putL (l.drop i)).1 * 2 ^ len = (putL l).1 → len + (putL (l.drop i)).2 = (putL l).2 → Hs h [Wr p N len, ro h0] → law01_BitsRound_L1111010 a n c cut (some ⟨p, 0, none⟩) i (law01_BitsRound_K111101 Q) h := by
  intro k
  induction k with
  | zero =>
    intro i N len h hi hl e1 e2 H
    rw [List.drop_of_length_le (by omega)] at e1 e2
    simp only [putL, Nat.zero_mul, Nat.add_zero] at e1 e2
    rw [e1, e2] at H
    exact law01_BitsRound_L1111010_of (br_false (decide_eq_false (by omega)) (kk h H))
  | succ k ih =>
    intro i N len h hi hl e1 e2 H
    have hil : i < l.length := by omega
    have hwv := hw _ (List.getElem_mem hil)
    refine law01_BitsRound_L1111010_of (br_true (decide_eq_true (by omega)) ?_)
    have rd := fun {R : Addr → Heap → Prop} => idxf E_sl_haversacklaw01_WOp (k := .i64) (c := c) (n := n) (i := i) (l := l) (φ := wopV) (x := l[i]) (H.tl.ro_rd hr) (fun _ => rfl) (by omega) (by omega) (by omega) (by simp) (R := R)
    refine rd fun t ht => ⟨_, ht.2.1, rd fun t2 ht2 => ⟨_, ht2.2.2.1, ?_⟩⟩
    simp only [inc (show i < 2 ^ 62 by omega)]
    rw [← List.getElem_cons_drop hil] at e1 e2
    simp only [putL] at e1 e2
    by_cases ho : l[i].ok
    · rw [if_pos ho] at e1 e2
      obtain ⟨o1, o2, o3⟩ := ho
      obtain ⟨m, hm⟩ := Int.eq_ofNat_of_zero_le o1
      rw [hm, Int.toNat_natCast] at o3 e1 e2
      rw [hm] at o2 ⊢
      refine Put_spec (n := m) H (by omega) o3 (by omega) fun h3 H3 => ⟨_, rfl, ih (i + 1) _ _ (by omega) (by omega) ?_ (by omega) H3⟩
      rw [← e1, Nat.add_mul, Nat.pow_add, Nat.add_assoc]
      congr 2
      rw [Nat.mul_comm (2 ^ m), Nat.mul_assoc, Nat.mul_comm (2 ^ m)]
    · rw [if_neg ho] at e1 e2
      exact Put_bad hwv ho ⟨_, rfl, ih (i + 1) _ _ (by omega) (by omega) e1 e2 H⟩
theorem br_take {h0 : Heap} {a : Option Addr} {n c r : Nat} {cut : Int} {l : List WOp} {bs : List Nat} {Q : Value → Heap → Prop} (hr : Rd h0 a (l.flatMap wopV)) (hn : l.length = n) (hmax : n ≤ 5000) (hw : ∀ o ∈ l, o.v < 4294967296)
    (hbl : (putL l).2 ≤ 8 * bs.length)
    (kk : ∀ h, Hs h [Rr r bs (putL l).2, ro h0] → law01_BitsRound_K111111101 Q (.exit 2) (law01_BitsRound_X2 (some ⟨r, 0, none⟩)) h) :
    ∀ (k i at_ : Nat) {h : Heap}, i + k = n → val bs / 2 ^ at_ = (putL (l.drop i)).1 → at_ + (putL (l.drop i)).2 = (putL l).2 → Hs h [Rr r bs at_, ro h0] → law01_BitsRound_L1111111010 a n c cut (some ⟨r, 0, none⟩) i (law01_BitsRound_K111111101 Q) h := by
  intro k
  induction k with
  | zero =>
    intro i at_ h hi e1 e2 H
    rw [List.drop_of_length_le (by omega)] at e2
    simp only [putL, Nat.add_zero] at e2
    rw [e2] at H
    exact law01_BitsRound_L1111111010_of (br_false (decide_eq_false (by omega)) (kk h H))
  | succ k ih =>
    intro i at_ h hi e1 e2 H
    have hil : i < l.length := by omega
    have hwv := hw _ (List.getElem_mem hil)
    refine law01_BitsRound_L1111111010_of (br_true (decide_eq_true (by omega)) ?_)
    have rd := fun {h : Heap} (H : Hs h [ro h0]) {R : Addr → Heap → Prop} => idxf E_sl_haversacklaw01_WOp (k := .i64) (c := c) (n := n) (i := i) (l := l) (φ := wopV) (x := l[i]) (H.ro_rd hr) (fun _ => rfl) (by omega) (by omega) (by omega) (by simp) (R := R)
    refine rd H.tl fun t ht => ⟨_, ht.2.1, rd H.tl fun t2 ht2 => ⟨_, ht2.2.2.1, ?_⟩⟩
    rw [← List.getElem_cons_drop hil] at e1 e2
    simp only [putL] at e1 e2
    have next : ∀ (at_ : Nat) {h : Heap}, val bs / 2 ^ at_ = (putL (l.drop (i + 1))).1 → at_ + (putL (l.drop (i + 1))).2 = (putL l).2 → Hs h [Rr r bs at_, ro h0] → law01_BitsRound_J1111111010011 a n c cut (some ⟨r, 0, none⟩) i (law01_BitsRound_K111111101 Q) h := by
      intro at_ h e1 e2 H
      refine law01_BitsRound_J1111111010011_of ?_
      unfold law01_BitsRound_J1111111010011_txt
      simp only [inc (show i < 2 ^ 62 by omega)]
      exact ih (i + 1) at_ (by omega) e1 e2 H
    refine may_spec hwv ⟨_, rfl, ?_⟩
    by_cases ho : l[i].ok
    · rw [if_pos ho] at e1 e2
      have ho' := ho
      obtain ⟨o1, o2, o3⟩ := ho'
      refine br_false (by show (!decide l[i].ok) = false; rw [decide_eq_true ho]; rfl) ?_
      refine rd H.tl fun t3 ht3 => ⟨_, ht3.2.2.1, ?_⟩
      obtain ⟨m, hm⟩ := Int.eq_ofNat_of_zero_le o1
      rw [hm, Int.toNat_natCast] at o3 e1 e2
      rw [hm] at o2
      have hv : val bs / 2 ^ at_ % 2 ^ m = l[i].v := by rw [e1, Nat.add_mul_mod_self_left, Nat.mod_eq_of_lt o3]
      have hnext : val bs / 2 ^ (at_ + m) = (putL (l.drop (i + 1))).1 := by rw [Nat.pow_add, ← Nat.div_div_eq_div_mul, e1, Nat.add_mul_div_left _ _ (Nat.pow_pos (by decide)), Nat.div_eq_of_lt o3, Nat.zero_add]
      rw [hm]
      refine Take_spec (n := m) H (by omega) (by omega) fun h3 H3 => ⟨_, _, rfl, br_false rfl ?_⟩
      rw [hv]
      refine rd H3.tl fun t4 ht4 => ⟨_, ht4.2.1, law01_BitsRound_J111111101001001101_of (br_false (by simp) ?_)⟩
      have e3 : at_ + m + (putL (l.drop (i + 1))).2 = (putL l).2 := by omega
      have skip : law01_BitsRound_J111111101001001111 a n c cut (some ⟨r, 0, none⟩) i l[i].v false (law01_BitsRound_K111111101 Q) h3 :=
        law01_BitsRound_J111111101001001111_of (br_false rfl (next (at_ + m) hnext e3 H3))
      refine (br_iff _ _ _).2 ⟨fun c1 => ?_, fun _ => skip⟩
      refine rd H3.tl fun t5 ht5 => ⟨_, ht5.2.2.1, ?_⟩
      refine law01_BitsRound_J111111101001001111_of ((br_iff _ _ _).2 ⟨fun c2 => ?_, fun _ => next (at_ + m) hnext e3 H3⟩)
      have c1 := of_decide_eq_true c1
      have c2 := of_decide_eq_true c2
      rw [hm] at c2
      obtain ⟨q, rfl⟩ := Int.eq_ofNat_of_zero_le (show 0 ≤ cut by omega)
      refine rd H3.tl fun t6 ht6 => ⟨_, ht6.2.2.1, ?_⟩
      rw [hm]
      refine Back_spec (n := m) H3 (by omega) fun h7 H7 => ⟨_, rfl, br_false rfl ?_⟩
      rw [show at_ + m - m = at_ by omega] at H7
      refine Take_spec (n := q) H7 (by omega) (by omega) fun h8 H8 => ⟨_, _, rfl, ?_⟩
      refine rd H8.tl fun t7 ht7 => ⟨_, ht7.2.2.1, ?_⟩
      have w1 : IntKind.i64.wrap (l[i].n - (q : Int)) = ((m - q : Nat) : Int) := by rw [hm, wrap_i64_z (by omega) (by omega)]; omega
      simp only [w1]
      refine Take_spec (n := m - q) H8 (by omega) (by omega) fun h9 H9 => ⟨_, _, rfl, br_false rfl (br_false rfl (br_true (decide_eq_true (by omega)) ?_))⟩
      have hj := join_eq (val bs / 2 ^ at_) q (m - q)
      rw [show q + (m - q) = m by omega, hv, Nat.div_div_eq_div_mul, ← Nat.pow_add] at hj
      have l32 : 2 ^ q ≤ 2 ^ 32 := Nat.pow_le_pow_right (n := 2) (by decide) (by omega)
      have m32 : 2 ^ (m - q) ≤ 2 ^ 32 := Nat.pow_le_pow_right (n := 2) (by decide) (by omega)
      have x1 : val bs / 2 ^ at_ % 2 ^ q < 2 ^ q := Nat.mod_lt _ (Nat.pow_pos (by decide))
      have x2 : val bs / 2 ^ (at_ + q) % 2 ^ (m - q) < 2 ^ (m - q) := Nat.mod_lt _ (Nat.pow_pos (by decide))
      have x3 : val bs / 2 ^ (at_ + q) % 2 ^ (m - q) * 2 ^ q < 18446744073709551616 := by omega
      have w2 : IntKind.u64.wrap (IntKind.u64.wrap ((val bs / 2 ^ at_ % 2 ^ q : Nat) : Int) + sShl .u64 (IntKind.u64.wrap ((val bs / 2 ^ (at_ + q) % 2 ^ (m - q) : Nat) : Int)) (q : Int)) = ((l[i].v : Nat) : Int) := by
        rw [wrap_u64_id (by omega), wrap_u64_id (by omega), shl_u64 (by omega), Nat.mod_eq_of_lt x3, ← Int.natCast_add, hj, wrap_u64_id (by omega)]
      refine law01_BitsRound_J11111110100100111101111_of (br_false ?_ ?_)
      · simp only [w2, wrap_u64_id (show l[i].v < 18446744073709551616 by omega)]; simp
      · refine next (at_ + m) hnext e3 ?_
        rwa [show at_ + q + (m - q) = at_ + m by omega] at H9
    · rw [if_neg ho] at e1 e2
      refine br_true (by show (!decide l[i].ok) = true; rw [decide_eq_false ho]; rfl) (next at_ e1 e2 H)
theorem BitsRound_spec {h : Heap} {a : Option Addr} {n c : Nat} {cut : Int} {l : List WOp} {Q : Value → Heap → Prop} (hr : Rd h a (l.flatMap wopV)) (hn : l.length = n) (hw : ∀ o ∈ l, o.v < 4294967296) (HQ : ∀ h', ExtB h.size h h' → Q (.bool true) h') :
    SpecH PP F_law01_BitsRound [.slice a n c, .int .i64 cut] h Q := by
  refine law01_BitsRound_door ?_
  unfold law01_BitsRound_main
  refine (br_iff _ _ _).2 ⟨fun _ => HQ h (ExtB.refl _ _), fun hb => ?_⟩
  have hb := of_decide_eq_false hb
  refine NewWriter_spec (Hs.start h) fun h1 p H1 => ⟨_, rfl, br_false rfl ?_⟩
  refine br_put hr hn (by omega) hw (fun h2 H2 => ?_) n 0 0 0 (by omega) (by omega) (by simp) (by simp) H1
  rw [law01_BitsRound_at1111010_X0]
  obtain ⟨a1, n1, c1, ⟨_, hN, _⟩, _⟩ := Wr_iff.1 H2
  have hlen := putL_len l
  refine Bytes_spec H2 fun h3 b H3 => ⟨_, _, _, rfl, ?_⟩
  refine NewReader_spec H3 H3.rd (by rw [dig_len]) (by simp) (fun x hx => dig_lt hx) (by omega) fun h4 r H4 => ⟨_, rfl, br_false rfl ?_⟩
  have ev : val (dig (putL l).1 (((putL l).2 + 7) / 8)) = (putL l).1 := by
    rw [val_dig, Nat.mod_eq_of_lt]
    rw [pow256]; exact Nat.lt_of_lt_of_le hN (Nat.pow_le_pow_right (by decide) (by omega))
  refine br_take hr hn (by omega) hw (by rw [dig_len]; omega) (fun h5 H5 => ?_) n 0 0 (by omega) (by simpa using ev) (by simp) (H4.m1.tl.m1.tl.perm (List.Perm.refl _))
  rw [law01_BitsRound_at1111111010_X2]
  refine awake_spec H5 fun h6 H6 => ⟨_, rfl, br_true rfl (Left_spec H6 ⟨_, rfl, ?_⟩)⟩
  rw [dig_len, decide_eq_true (by omega)]
  exact HQ _ H6.tl.ro_below
end Go.Proofs.Ytbkbipfcohmpcaa

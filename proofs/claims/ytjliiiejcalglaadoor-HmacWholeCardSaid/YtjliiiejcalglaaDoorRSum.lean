/- Contracts of the document's digest: what stands behind the bytes, the digest, with a key. -/
import Derived.Test.YtjliiiejcalglaaDoorRBlk
set_option linter.unusedVariables false
set_option linter.unusedSimpArgs false
namespace Go.Proofs.YtjliiiejcalglaaDoor
open Go Go.HW Go.HW.Sha
variable {h : Heap} {L : List Assn} {Q : Value → Heap → Prop}
section
variable {a : Option Addr} {n c : Nat} {bs : List Nat} {K : EP}
theorem rp1 (hl : bs.length < 2 ^ 30) (kk : ∀ h' oa oc, Hs h' (own oa (zer bs (nought bs.length)).length oc T_uint8 1 (nV (zer bs (nought bs.length))) :: L) → K (.exit 0) (ref15_padded.X0 a n c oa (zer bs (nought bs.length)).length oc) h') :
    ∀ (k j : Nat) {h : Heap} {oa : Option Addr} {oc : Nat}, j + k = nought bs.length → Hs h (own oa (zer bs j).length oc T_uint8 1 (nV (zer bs j)) :: L) → ref15_padded.L1 a n c oa (zer bs j).length oc K h := by
  have hn : nought bs.length < 64 := Nat.mod_lt _ (by decide)
  intro k
  induction k with
  | zero =>
    intro j h oa oc hj H
    obtain rfl : j = nought bs.length := by omega
    have hm := nought_mod bs.length
    refine ref15_padded.L1_of (br_false ?_ (kk h oa oc H))
    rw [show (64 : Int) = ((64 : Nat) : Int) from rfl, tmod_n, zer_len, hm]; rfl
  | succ k ih =>
    intro j h oa oc hj H
    have hm := nought_lt (n := bs.length) (j := j) (by omega)
    refine ref15_padded.L1_of (br_true ?_ ?_)
    · rw [show (64 : Int) = ((64 : Nat) : Int) from rfl, tmod_n, zer_len]; simp; omega
    refine H.app_vals E_sl_uint8 (ys := nV [0]) (m := 1) rfl rfl (nV_one _) (fun h2 a2 c2 H2 => ⟨_, _, _, rfl, ?_⟩) (by rw [zer_len]; omega) (by rw [zer_len]; omega)
    have e : (zer bs j).length + 1 = (zer bs (j + 1)).length := by rw [zer_len, zer_len]; omega
    rw [← nV_app, zer_succ, e] at H2
    rw [e]
    exact ih (j + 1) (by omega) H2
theorem be8_tail (N : Nat) : ∀ j, j ≤ 8 → (be8 N)[8 - j]? = if j = 0 then none else some (N / 256 ^ (j - 1) % 256) := by
  intro j hj
  have : j = 0 ∨ j = 1 ∨ j = 2 ∨ j = 3 ∨ j = 4 ∨ j = 5 ∨ j = 6 ∨ j = 7 ∨ j = 8 := by omega
  rcases this with rfl | rfl | rfl | rfl | rfl | rfl | rfl | rfl | rfl <;> simp [be8]
def lenTo (N j : Nat) : List Nat := List.replicate (8 - j) 0 ++ (be8 N).drop (8 - j)
theorem lenTo_set (N : Nat) {j : Nat} (hj : j < 8) : (lenTo N j).set (7 - j) (N / 256 ^ j % 256) = lenTo N (j + 1) := by
  have : j = 0 ∨ j = 1 ∨ j = 2 ∨ j = 3 ∨ j = 4 ∨ j = 5 ∨ j = 6 ∨ j = 7 := by omega
  rcases this with rfl | rfl | rfl | rfl | rfl | rfl | rfl | rfl <;> simp [lenTo, be8, List.replicate]
theorem rp2 {oa : Option Addr} {on oc lb N : Nat} (hN : N < 2 ^ 62) (kk : ∀ h', Hs h' (pt lb T_8_uint8 (nV (be8 N)) :: L) → K (.exit 2) (ref15_padded.X2 oa on oc ⟨lb, 0, none⟩) h') :
    ∀ (k j : Nat) {h : Heap}, j + k = 8 → Hs h (pt lb T_8_uint8 (nV (lenTo N j)) :: L) → ref15_padded.L2 oa on oc ((N / 256 ^ j : Nat) : Int) ⟨lb, 0, none⟩ (7 - (j : Int)) K h := by
  intro k
  induction k with
  | zero =>
    intro j h hj H
    obtain rfl : j = 8 := by omega
    exact ref15_padded.L2_of (br_false (decide_eq_false (by omega)) (kk h H))
  | succ k ih =>
    intro j h hj H
    have hq : N / 256 ^ j ≤ N := Nat.div_le_self _ _
    have ei : (7 - (j : Int)) = ((7 - j : Nat) : Int) := by omega
    have w1 : IntKind.i64.wrap (7 - (j : Int) - 1) = 7 - ((j + 1 : Nat) : Int) := by rw [wrap_i64_z (by omega) (by omega)]; omega
    have w2 : IntKind.u8.wrap (Int.tmod ((N / 256 ^ j : Nat) : Int) 256) = ((N / 256 ^ j % 256 : Nat) : Int) := by
      rw [show (256 : Int) = ((256 : Nat) : Int) from rfl, tmod_n, wrap_u8, Nat.mod_mod]
    have w3 : IntKind.i64.wrap (Int.tdiv ((N / 256 ^ j : Nat) : Int) 256) = ((N / 256 ^ (j + 1) : Nat) : Int) := by
      rw [show (256 : Int) = ((256 : Nat) : Int) from rfl, tdiv_n, Nat.div_div_eq_div_mul, show 256 ^ j * 256 = 256 ^ (j + 1) from (Nat.pow_succ ..).symm]
      have : N / 256 ^ (j + 1) ≤ N := Nat.div_le_self _ _
      generalize N / 256 ^ (j + 1) = q at this ⊢
      exact wrap_i64_z (by omega) (by omega)
    refine ref15_padded.L2_of (br_true (decide_eq_true (by omega)) ?_)
    simp only [w1, w2, w3]
    have hl : (lenTo N j).length = 8 := by simp [lenTo, be8] <;> omega
    refine ai (j := 7 - j) A_8_uint8 (by omega) ?_ ei
    refine H.sto (off := 7 - j) (by rw [nV_len, hl]; omega) fun h2 H2 => ih (j + 1) (by omega) ?_
    rw [← lenTo_set N (by omega)]
    have e2 : ∀ (l : List Nat) (q y : Nat), (nV l).set q (.int .u8 (y : Int)) = nV (l.set q y) := fun l q y => by simp [nV, List.map_set]
    rw [← e2]; exact H2
end
theorem padded_spec {a : Option Addr} {n c : Nat} {bs : List Nat} (hr : Rd h a (nV bs)) (hn : bs.length = n) (hn0 : a = none → n = 0) (hl : n < 2 ^ 30) (H : Hs h L)
    (kk : ∀ h' oa oc, Hs h' (own oa (padded bs).length oc T_uint8 1 (nV (padded bs)) :: L) → Q (.slice oa (padded bs).length oc) h') : SpecH PP F_ref15_padded [.slice a n c] h Q := by
  refine ref15_padded.door ?_
  refine (H.own_nil T_uint8 1).app_sl E_sl_uint8 (m := n) (ys := nV bs) hr (by rw [nV_len, hn, Nat.mul_one]) hn0 (nV_one _) (fun h2 a2 c2 H2 => ⟨_, _, _, rfl, ?_⟩) (by omega) (by omega)
  refine H2.app_vals E_sl_uint8 (ys := nV [128]) (m := 1) rfl rfl (nV_one _) (fun h3 a3 c3 H3 => ⟨_, _, _, rfl, ?_⟩) (by omega) (by omega)
  have e1 : [] ++ nV bs ++ nV [128] = nV (zer bs 0) := by rw [List.nil_append, ← nV_app]; congr 1; simp [zer]
  have e2 : 0 + n + 1 = (zer bs 0).length := by rw [zer_len]; omega
  rw [e1, e2] at H3
  rw [e2]
  have hz : nought bs.length < 64 := Nat.mod_lt _ (by decide)
  refine rp1 (bs := bs) (by omega) (fun h4 oa oc H4 => ref15_padded.L1_X0 ?_) (nought bs.length) 0 (by omega) H3
  have w8 : IntKind.i64.wrap (8 * (n : Int)) = ((8 * bs.length / 256 ^ 0 : Nat) : Int) := by rw [wrap_i64_z (by omega) (by omega)]; simp [hn]
  simp only [w8]
  have H5 := H4.new (t := T_8_uint8) (cs := #[(.int .u8 0), (.int .u8 0), (.int .u8 0), (.int .u8 0), (.int .u8 0), (.int .u8 0), (.int .u8 0), (.int .u8 0)]) (xs := nV (lenTo (8 * bs.length) 0))
  refine rp2 (N := 8 * bs.length) (by omega) (fun h6 H6 => ref15_padded.L2_X2 (slArr A_8_uint8 ⟨_, _, _, rfl, ?_⟩)) 8 0 (by omega) H5
  refine H6.m1.app_sl E_sl_uint8 (m := 8) (ys := nV (be8 (8 * bs.length))) (Gv.pt h6 H6) rfl (fun e => nomatch e) (nV_one _) (fun h7 a7 c7 H7 => ⟨_, _, _, rfl, ?_⟩) (by rw [zer_len]; omega) (by rw [zer_len]; omega)
  have e7 : (zer bs (nought bs.length)).length + 8 = (padded bs).length := by rw [← padded_zer, List.length_append]; rfl
  rw [← nV_app, padded_zer, e7] at H7
  rw [e7]
  exact kk h7 a7 c7 H7.m1.tl
/-! ### The words written out -/
def natV (l : List Nat) : List Value := l.map fun x : Nat => .int .u32 (x : Int)
def vw (s : S8) (i : Nat) : Nat := (s.l.getD i 0).toNat
structure HInv (s : S8) (i q : Nat) (ys : List Nat) : Prop where
  len : ys.length = 8
  up : ∀ m, i < m → m < 8 → ys.getD m 0 = vw s m
  at_ : i < 8 → ys.getD i 0 = vw s i / 256 ^ q
structure OInv (s : S8) (i q : Nat) (zs : List Nat) : Prop where
  len : zs.length = 32
  lo : ∀ m, m < 4 * i → zs[m]? = (out s)[m]?
  hi : ∀ m, 4 * i + 4 ≤ m + q → m < 4 * i + 4 → zs[m]? = (out s)[m]?
theorem nat_set (l : List Nat) (q y : Nat) : (natV l).set q (.int .u32 (y : Int)) = natV (l.set q y) := by simp [natV, List.map_set]
theorem nV_set (l : List Nat) (q y : Nat) : (nV l).set q (.int .u8 (y : Int)) = nV (l.set q y) := by simp [nV, List.map_set]
theorem natV_get {l : List Nat} {i : Nat} (hi : i < l.length) : (natV l)[i]? = some (.int .u32 (l.getD i 0 : Nat)) := by simp [natV, List.getD_eq_getElem?_getD, hi]
section
variable {t2 hb ob i : Nat} {s : S8} {K : EP}
theorem ro3 (hi : i < 8) (kk : ∀ h' ys zs, HInv s i 4 ys → OInv s i 4 zs → Hs h' (pt hb T_8_uint32 (natV ys) :: pt ob T_32_uint8 (nV zs) :: L) → K (.exit 4) (ref15_Sum.X4 ⟨t2, 0, none⟩ ⟨hb, 0, none⟩ ⟨ob, 0, none⟩ i) h') :
    ∀ (k q : Nat) {h : Heap} {ys zs : List Nat}, q + k = 4 → HInv s i q ys → OInv s i q zs → Hs h (pt hb T_8_uint32 (natV ys) :: pt ob T_32_uint8 (nV zs) :: L) → ref15_Sum.L3 ⟨t2, 0, none⟩ ⟨hb, 0, none⟩ ⟨ob, 0, none⟩ i (3 - (q : Int)) K h := by
  intro k
  induction k with
  | zero =>
    intro q h ys zs hq hy hz H
    obtain rfl : q = 4 := by omega
    exact ref15_Sum.L3_of (br_false (decide_eq_false (by omega)) (kk h ys zs hy hz H))
  | succ k ih =>
    intro q h ys zs hq hy hz H
    have w1 : IntKind.i64.wrap (4 * (i : Int)) = ((4 * i : Nat) : Int) := by rw [wrap_i64_z (by omega) (by omega)]; simp
    have w2 : IntKind.i64.wrap (((4 * i : Nat) : Int) + (3 - (q : Int))) = ((4 * i + (3 - q) : Nat) : Int) := by rw [wrap_i64_z (by omega) (by omega)]; omega
    have w3 : IntKind.i64.wrap (3 - (q : Int) - 1) = 3 - ((q + 1 : Nat) : Int) := by rw [wrap_i64_z (by omega) (by omega)]; omega
    have hyi := hy.at_ hi
    have hv : vw s i < 4294967296 := (s.l.getD i 0).isLt
    have w4 : IntKind.u8.wrap (Int.tmod ((ys.getD i 0 : Nat) : Int) 256) = ((vw s i / 256 ^ q % 256 : Nat) : Int) := by
      rw [show (256 : Int) = ((256 : Nat) : Int) from rfl, tmod_n, wrap_u8, Nat.mod_mod, hyi]
    have w5 : IntKind.u32.wrap (Int.tdiv ((ys.getD i 0 : Nat) : Int) 256) = ((vw s i / 256 ^ (q + 1) : Nat) : Int) := by
      rw [show (256 : Int) = ((256 : Nat) : Int) from rfl, tdiv_n, hyi, Nat.div_div_eq_div_mul, show 256 ^ q * 256 = 256 ^ (q + 1) from (Nat.pow_succ ..).symm]
      have : vw s i / 256 ^ (q + 1) ≤ vw s i := Nat.div_le_self _ _
      exact wrap_u32_id (by omega)
    have hc := natV_get (l := ys) (i := i) (by rw [hy.len]; exact hi)
    refine ref15_Sum.L3_of (br_true (decide_eq_true (by omega)) ?_)
    simp only [w1, w2, w3]
    refine ai (j := i) A_8_uint32 hi ⟨_, H.cell (off := i) hc, ?_⟩
    simp only [w4]
    refine ai (j := 4 * i + (3 - q)) A_32_uint8 (by omega) ?_
    refine H.m1.sto (off := 4 * i + (3 - q)) (by rw [nV_len, hz.len]; omega) fun h3 H3 => ?_
    rw [nV_set] at H3
    refine ai (j := i) A_8_uint32 hi ⟨_, H3.m1.cell (off := i) hc, ?_⟩
    simp only [w5]
    refine ai (j := i) A_8_uint32 hi ?_
    refine H3.m1.sto (off := i) (by simp [natV, hy.len]; exact hi) fun h6 H6 => ?_
    rw [nat_set] at H6
    have hb8 := out_get s (i := i) (j := 3 - q) hi (by omega)
    refine ih (q + 1) (by omega) ⟨by rw [List.length_set]; exact hy.len, fun m h1 h2 => ?_, fun _ => ?_⟩ ⟨by rw [List.length_set]; exact hz.len, fun m hm => ?_, fun m h1 h2 => ?_⟩ H6
    · rw [← hy.up m h1 h2, List.getD_eq_getElem?_getD, List.getElem?_set_ne (by omega), ← List.getD_eq_getElem?_getD]
    · rw [List.getD_eq_getElem?_getD, List.getElem?_set_self (by rw [hy.len]; exact hi)]; rfl
    · rw [List.getElem?_set_ne (by omega)]; exact hz.lo m hm
    · by_cases e : m = 4 * i + (3 - q)
      · subst e
        rw [List.getElem?_set_self (by rw [hz.len]; omega), hb8]
        congr 2
        show vw s i / 256 ^ q = vw s i / 2 ^ (24 - 8 * (3 - q))
        rw [show 256 = 2 ^ 8 from rfl, ← Nat.pow_mul]; congr 2; omega
      · rw [List.getElem?_set_ne (by omega)]; exact hz.hi m (by omega) h2
theorem ro2 (kk : ∀ h' ys, Hs h' (pt hb T_8_uint32 (natV ys) :: pt ob T_32_uint8 (nV (out s)) :: L) → K (.exit 2) (ref15_Sum.X2 ⟨t2, 0, none⟩ ⟨ob, 0, none⟩) h') :
    ∀ (k i : Nat) {h : Heap} {ys zs : List Nat}, i + k = 8 → HInv s i 0 ys → OInv s i 0 zs → Hs h (pt hb T_8_uint32 (natV ys) :: pt ob T_32_uint8 (nV zs) :: L) → ref15_Sum.L2 ⟨t2, 0, none⟩ ⟨hb, 0, none⟩ ⟨ob, 0, none⟩ i K h := by
  intro k
  induction k with
  | zero =>
    intro i h ys zs hi hy hz H
    obtain rfl : i = 8 := by omega
    have : zs = out s := by
      apply List.ext_getElem?
      intro m
      rcases Nat.lt_or_ge m 32 with hm | hm
      · exact hz.lo m (by omega)
      · rw [List.getElem?_eq_none (by rw [hz.len]; exact hm), List.getElem?_eq_none (by rw [out_len]; exact hm)]
    rw [this] at H
    exact ref15_Sum.L2_of (br_false rfl (kk h ys H))
  | succ k ih =>
    intro i h ys zs hi hy hz H
    refine ref15_Sum.L2_of (br_true (decide_eq_true (by omega)) ?_)
    refine ro3 (s := s) (by omega) (fun h2 ys zs hy2 hz2 H2 => ref15_Sum.L3_X4 ?_) 4 0 (by omega) hy hz H
    simp only [inc (show i < 2 ^ 62 by omega)]
    refine ih (i + 1) (by omega) ⟨hy2.len, fun m h1 h2 => hy2.up m (by omega) h2, fun h8 => ?_⟩ ⟨hz2.len, fun m hm => ?_, fun m h1 h2 => by omega⟩ H2
    · rw [hy2.up (i + 1) (by omega) h8]; simp
    · rcases Nat.lt_or_ge m (4 * i) with h1 | h1
      · exact hz2.lo m h1
      · exact hz2.hi m (by omega) (by omega)
end
section
variable {t2 hb : Nat} {aa : Option Addr} {an ac : Nat} {bs : List Nat} {K : EP}
theorem rl1 (hr : Gv L aa (nV bs)) (hn : bs.length = an) (hnc : an ≤ ac) (hn0 : aa = none → ac = 0) (hx : ∀ x ∈ bs, x < 256) (h64 : an % 64 = 0) (hmax : an < 2 ^ 40) (kk : ∀ h', Hs h' (pt hb T_8_uint32 (wsV (Sha.hb (an / 64) iv bs).l) :: L) → K (.exit 0) (ref15_Sum.X0 ⟨t2, 0, none⟩ ⟨hb, 0, none⟩) h') :
    ∀ (k q : Nat) {h : Heap}, q + k = an / 64 → Hs h (pt hb T_8_uint32 (wsV (Sha.hb q iv bs).l) :: L) → ref15_Sum.L1 ⟨t2, 0, none⟩ ⟨hb, 0, none⟩ aa an ac ((64 * q : Nat) : Int) K h := by
  intro k
  induction k with
  | zero =>
    intro q h hq H
    obtain rfl : q = an / 64 := by omega
    exact ref15_Sum.L1_of (br_false (decide_eq_false (by omega)) (kk h H))
  | succ k ih =>
    intro q h hq H
    have w1 : IntKind.i64.wrap (((64 * q : Nat) : Int) + 64) = ((64 * (q + 1) : Nat) : Int) := by rw [wrap_i64_z (by omega) (by omega)]; omega
    refine ref15_Sum.L1_of (br_true (decide_eq_true (by omega)) ?_)
    simp only [w1]
    refine ⟨_, _, _, _, _, _, _, _, H.rdc0, ?_⟩
    refine bytes_cutG (i := 64 * q) (j := 64 * (q + 1)) E_sl_uint8 hr hn hnc hn0 (by omega) (by omega) fun a2 c2 g2 _ _ _ => ⟨_, _, _, rfl, ?_⟩
    have e64 : 64 * (q + 1) - 64 * q = 64 := by omega
    rw [e64] at g2 ⊢
    refine RBlock_spec (p := (bs.drop (64 * q)).take 64) g2.cons (by rw [List.length_take, List.length_drop]; omega) rfl (fun x hm => hx x (List.mem_of_mem_drop (List.mem_of_mem_take hm))) H fun h3 H3 => ?_
    have e3 : blk (Sha.hb q iv bs) ((bs.drop (64 * q)).take 64) = Sha.hb (q + 1) iv bs := by rw [hb_add q 1]; rfl
    rw [e3]
    refine ⟨_, _, _, _, _, _, _, _, rfl, ?_⟩
    exact H3.wrs (vs := wsV (Sha.hb (q + 1) iv bs).l) (fun h4 H4 => ih (q + 1) (by omega) H4) (by simp [wsV_len, S8_len]) (wsV_one _)
end
theorem RSum_spec {a : Option Addr} {n c : Nat} {xs : List Nat} (hr : Rd h a (nV xs)) (hn : xs.length = n) (hn0 : a = none → n = 0) (hx : ∀ x ∈ xs, x < 256) (hl : n < 2 ^ 30) (H : Hs h L) (hr2 : Gv L a (nV xs)) (kk : ∀ h', Hs h' L → Q (.agg (nV (digest xs)).toArray) h') : SpecH PP F_ref15_Sum [.slice a n c] h Q := by
  refine ref15_Sum.door ?_
  have e0 : (Array.replicate 32 (Value.int .u8 0)) = (nV (List.replicate 32 0)).toArray := by rw [← Array.toList_inj, nV_rep]; simp
  have H1 := H.new (t := T_32_uint8) (cs := Array.replicate 32 (.int .u8 0)) (xs := nV (List.replicate 32 0)) e0
  have H2 := H1.new (t := T_8_uint32) (cs := #[(.int .u32 0), (.int .u32 0), (.int .u32 0), (.int .u32 0), (.int .u32 0), (.int .u32 0), (.int .u32 0), (.int .u32 0)]) (xs := wsV [0, 0, 0, 0, 0, 0, 0, 0])
  refine H2.wrs (vs := wsV iv.l) (fun h3 H3 => ?_) rfl (wsV_one _)
  refine padded_spec (hr2 _ H3.tl.tl) hn hn0 hl H3 fun h4 oa oc H4 => ⟨_, _, _, rfl, ?_⟩
  have hpl : ∀ x ∈ padded xs, x < 256 := by
    intro x hm
    rcases List.mem_append.1 hm with hm | hm
    · rcases List.mem_append.1 hm with hm | hm
      · rcases List.mem_append.1 hm with hm | hm
        · exact hx x hm
        · rw [List.mem_singleton.1 hm]; decide
      · rw [(List.mem_replicate.1 hm).2]; decide
    · exact be8_lt hm
  have hz : nought xs.length < 64 := Nat.mod_lt _ (by decide)
  have hlen : (padded xs).length < 2 ^ 40 := by rw [← padded_zer, List.length_append, zer_len]; simp [be8]; omega
  refine rl1 (q := 0) (bs := padded xs) (an := (padded xs).length) Gv.own rfl H4.own_le (fun e => by subst e; exact H4.own_none) hpl (padded_len xs) hlen (fun h5 H5 => ref15_Sum.L1_X0 ?_) ((padded xs).length / 64) (by omega) H4.m1
  have H6 := H5.new (t := T_32_uint8) (cs := Array.replicate 32 (.int .u8 0)) (xs := nV (List.replicate 32 0)) e0
  have hd : Sha.out (Sha.hb ((padded xs).length / 64) iv (padded xs)) = digest xs := rfl
  generalize Sha.hb ((padded xs).length / 64) iv (padded xs) = S at H6 hd
  have e6 : wsV S.l = natV (S.l.map BitVec.toNat) := by simp [wsV, natV, wV]
  rw [e6] at H6
  refine ro2 (s := S) (fun h7 ys H7 => ref15_Sum.L2_X2 ⟨_, by rw [nV_len]; exact out_len _, H7.m1.rdc0, br_true (by simp [nV_len, out_len]) ?_⟩) 8 0 (ys := S.l.map BitVec.toNat) (zs := List.replicate 32 0) (by omega) ⟨rfl, fun m h1 h2 => ?_, fun _ => ?_⟩ ⟨rfl, fun m hm => by omega, fun m h1 h2 => by omega⟩ H6.m1
  · refine H7.m3.wrs (fun h8 H8 => ⟨_, by rw [nV_len]; exact out_len _, H8.rdc0, ?_⟩) (by rw [nV_len, nV_len, out_len]; rfl) (nV_one _)
    rw [hd]; exact kk h8 (H8.tl.tl.tl.tl)
  · unfold vw; rw [List.getD_eq_getElem?_getD, List.getD_eq_getElem?_getD, List.getElem?_map, List.getElem?_eq_getElem (show m < S.l.length from h2)]; rfl
  · unfold vw; rw [List.getD_eq_getElem?_getD, List.getD_eq_getElem?_getD, List.getElem?_map, List.getElem?_eq_getElem (show 0 < S.l.length by rw [S8_len]; decide)]; simp
end Go.Proofs.YtjliiiejcalglaaDoor

/- Contracts of package hmac: a block. -/
import Derived.Test.YtjliiiejcalglaaDoorLend
import Derived.Test.YtjliiiejcalglaaDoorHwArr
import Derived.Test.YtjliiiejcalglaaDoorHwSha
set_option linter.unusedVariables false
set_option linter.unusedSimpArgs false
namespace Go.Proofs.YtjliiiejcalglaaDoor
open Go Go.HW Go.HW.Sha
variable {h : Heap} {L : List Assn} {Q : Value → Heap → Prop}
def wV (w : W) : Value := .int .u32 (w.toNat : Int)
def wsV (l : List W) : List Value := l.map wV
theorem wsV_len (l : List W) : (wsV l).length = l.length := by simp [wsV]
theorem wsV_app (a b : List W) : wsV (a ++ b) = wsV a ++ wsV b := by simp [wsV]
theorem wsV_one (l : List W) : ∀ v ∈ wsV l, oneC v = true := by
  intro v hv; obtain ⟨w, _, rfl⟩ := List.mem_map.1 hv; rfl
theorem wsV_get {l : List W} {m : List Value} {i : Nat} (hi : i < l.length) : (wsV l ++ m)[i]? = some (wV (l.getD i 0)) := by
  rw [List.getElem?_append_left (by rw [wsV_len]; exact hi)]
  simp [wsV, List.getD_eq_getElem?_getD, hi]
theorem wsV_put {l : List W} {n : Nat} {w : W} (h : l.length < n) : (wsV l ++ List.replicate (n - l.length) (wV 0)).set l.length (wV w) = wsV (l ++ [w]) ++ List.replicate (n - (l ++ [w]).length) (wV 0) := by
  obtain ⟨k, hk⟩ : ∃ k, n - l.length = k + 1 := ⟨n - l.length - 1, by omega⟩
  have hk2 : n - (l ++ [w]).length = k := by rw [List.length_append, List.length_singleton]; omega
  rw [hk, hk2, List.replicate_succ, List.set_append_right _ _ (by rw [wsV_len]; exact Nat.le_refl _), wsV_len, Nat.sub_self, List.set_cons_zero, wsV_app, List.append_assoc]; rfl
theorem add32 (a b : W) : IntKind.u32.wrap ((a.toNat : Int) + (b.toNat : Int)) = ((a + b).toNat : Int) := add_bv (k := .u32) rfl a b
theorem or32 (a b : W) : bOr .u32 a.toNat b.toNat = ((a ||| b).toNat : Int) := bOr_bv (k := .u32) rfl a b
theorem not32 (a : W) : bXor .u32 IntKind.u32.max a.toNat = ((~~~a).toNat : Int) := by
  have e : IntKind.u32.max = ((BitVec.allOnes 32).toNat : Int) := by decide
  rw [e, xor32, BitVec.allOnes_xor]
theorem shrN (a : W) (n : Nat) : sShr .u32 a.toNat (n : Int) = ((a >>> n).toNat : Int) := by rw [shr32, Int.toNat_natCast]
theorem shlN (a : W) (n : Nat) : sShl .u32 a.toNat (n : Int) = ((a <<< n).toNat : Int) := by have := sShl_bv (k := .u32) rfl a (n : Int); rw [Int.toNat_natCast] at this; exact this
theorem nV_getD {p : List Nat} {i : Nat} (hi : i < p.length) : (nV p)[i]? = some (.int .u8 (p.getD i 0 : Nat)) := by rw [nV_get hi]; simp [List.getD_eq_getElem?_getD, hi]
theorem getD_lt {p : List Nat} (hx : ∀ x ∈ p, x < 256) (i : Nat) : p.getD i 0 < 256 := by
  rw [List.getD_eq_getElem?_getD]
  rcases Nat.lt_or_ge i p.length with h | h
  · rw [List.getElem?_eq_getElem h]; exact hx _ (List.getElem_mem h)
  · rw [List.getElem?_eq_none h]; decide
theorem be_or {a b c d : Nat} (ha : a < 256) (hb : b < 256) (hc : c < 256) (hd : d < 256) : (((a * 2 ^ 24 % 4294967296 ||| b * 2 ^ 16 % 4294967296) ||| c * 2 ^ 8 % 4294967296) ||| d) = ((a * 256 + b) * 256 + c) * 256 + d := by
  rw [Nat.mod_eq_of_lt (by omega), Nat.mod_eq_of_lt (by omega), Nat.mod_eq_of_lt (by omega)]
  have e1 : a * 2 ^ 24 ||| b * 2 ^ 16 = (a * 256 + b) * 2 ^ 16 := by
    rw [Nat.or_comm, or_add (a := b * 2 ^ 16) (b := a) (k := 24) (by omega)]; omega
  have e2 : (a * 256 + b) * 2 ^ 16 ||| c * 2 ^ 8 = ((a * 256 + b) * 256 + c) * 2 ^ 8 := by
    rw [Nat.or_comm, or_add (a := c * 2 ^ 8) (b := a * 256 + b) (k := 16) (by omega)]; omega
  rw [e1, e2, Nat.or_comm, or_add (a := d) (b := (a * 256 + b) * 256 + c) (k := 8) (by omega)]; omega
theorem be4_nat {p : List Nat} (hx : ∀ x ∈ p, x < 256) (i : Nat) : (be4 p i).toNat = ((p.getD (4 * i) 0 * 256 + p.getD (4 * i + 1) 0) * 256 + p.getD (4 * i + 2) 0) * 256 + p.getD (4 * i + 3) 0 := by
  have h0 := getD_lt hx (4 * i); have h1 := getD_lt hx (4 * i + 1); have h2 := getD_lt hx (4 * i + 2); have h3 := getD_lt hx (4 * i + 3)
  unfold be4
  rw [BitVec.toNat_ofNat, Nat.mod_eq_of_lt]
  omega
theorem rot_pure {x : W} {n : Nat} (h1 : 1 ≤ n) (h2 : n ≤ 31) : PureAt PP F_math_bits_RotateLeft32 [wV x, .int .i64 (-(n : Int))] (wV (rr x n)) := by
  intro h
  refine math_bits_RotateLeft32.door ?_
  have e1 : IntKind.u64.wrap (-(n : Int)) = ((18446744073709551616 - n : Nat) : Int) := by
    rw [wrap_bv (k := .u64) rfl, BitVec.toNat_ofInt]; simp only [IntKind.bits]; omega
  have e2 : bAnd .u64 ((18446744073709551616 - n : Nat) : Int) 31 = ((32 - n : Nat) : Int) := by
    have := and_u64 (a := 18446744073709551616 - n) (b := 31) (by omega) (by omega)
    rw [show ((31 : Nat) : Int) = 31 from rfl] at this
    rw [this, show (31 : Nat) = 2 ^ 5 - 1 from rfl, Nat.and_two_pow_sub_one_eq_mod]; congr 1; omega
  have e3 : IntKind.u64.wrap (32 - ((32 - n : Nat) : Int)) = (n : Int) := by rw [wrap_u64_z (by omega) (by omega)]; omega
  simp only [e1, e2, e3, shrN, shlN, or32]
  refine br_true (by simp) (br_true (by simp) ⟨?_, by simp⟩)
  unfold wV rr; rw [BitVec.or_comm]
theorem right_pure {x : W} {n : Nat} (h1 : 1 ≤ n) (h2 : n ≤ 31) : PureAt PP F_hmac_right [wV x, .int .i64 n] (wV (rr x n)) := by
  intro h
  refine hmac_right.door ?_
  have e : IntKind.i64.wrap (0 - (n : Int)) = -(n : Int) := by rw [wrap_i64_z (by omega) (by omega)]; omega
  simp only [e]
  exact ⟨_, rot_pure h1 h2, _, rfl, rfl, by simp⟩
section
variable {a : Option Addr} {n c w : Nat} {p : List Nat} {K : EP} {xh : OA}
theorem bl1 (hr : Gv L a (nV p)) (hp : p.length = 64) (hn : n = 64) (hx : ∀ x ∈ p, x < 256) (kk : ∀ h', Hs h' (pt w T_64_uint32 (wsV (first p 16) ++ List.replicate (64 - (first p 16).length) (wV 0)) :: L) → K (.exit 0) (hmac_Hash_block.X0 xh ⟨w, 0, none⟩) h') :
    ∀ (k i : Nat) {h : Heap}, i + k = 16 → Hs h (pt w T_64_uint32 (wsV (first p i) ++ List.replicate (64 - (first p i).length) (wV 0)) :: L) → hmac_Hash_block.L1 xh a n c ⟨w, 0, none⟩ i K h := by
  intro k
  induction k with
  | zero => intro i h hi H; obtain rfl : i = 16 := by omega
            exact hmac_Hash_block.L1_of (br_false rfl (kk h H))
  | succ k ih =>
    intro i h hi H
    have hrd := hr _ H.tl
    have w4 : ∀ j : Nat, j < 4 → IntKind.i64.wrap (((4 * i : Nat) : Int) + (j : Int)) = ((4 * i + j : Nat) : Int) := fun j hj => by rw [wrap_i64_z (by omega) (by omega)]; simp
    have w0 : IntKind.i64.wrap (4 * (i : Int)) = ((4 * i : Nat) : Int) := by rw [wrap_i64_z (by omega) (by omega)]; simp
    have wi : IntKind.i64.wrap ((i : Int) + 1) = ((i + 1 : Nat) : Int) := inc (by omega)
    have I : ∀ (j : Nat) {R : Addr → Heap → Prop}, j < 4 → (∀ t, cellH h t = some (.int .u8 (p.getD (4 * i + j) 0 : Nat)) → R t h) → hwp PP (Instr.indexAt T_sl_uint8 (.slice a n c) (.int .i64 ((4 * i + j : Nat) : Int))) (fun u h1 => ∃ t, u = .pointer (some t) ∧ R t h1) h := fun j R hj r =>
      idx E_sl_uint8 hrd (by omega) (by omega) (by rw [Int.toNat_natCast]; exact nV_getD (by omega)) r
    have w1 := w4 1 (by omega); have w2 := w4 2 (by omega); have w3 := w4 3 (by omega)
    simp only [Int.cast_ofNat_Int] at w1 w2 w3
    refine hmac_Hash_block.L1_of (br_true (decide_eq_true (by omega)) ?_)
    simp only [w0, w1, w2, w3, wi]
    have g := fun j => getD_lt hx (4 * i + j)
    refine I 0 (by omega) fun t0 ht0 => ⟨_, ht0, I 1 (by omega) fun t1 ht1 => ⟨_, ht1, I 2 (by omega) fun t2 ht2 => ⟨_, ht2, I 3 (by omega) fun t3 ht3 => ⟨_, ht3, ?_⟩⟩⟩⟩
    have hz : ∀ j, p.getD (4 * i + j) 0 < 4294967296 := fun j => Nat.lt_trans (g j) (by decide)
    have q24 := shl_u32 (m := 24) (hz 0); have q16 := shl_u32 (m := 16) (hz 1); have q8 := shl_u32 (m := 8) (hz 2)
    simp only [Int.cast_ofNat_Int] at q24 q16 q8
    have ml : ∀ x : Nat, x % 4294967296 < 4294967296 := fun x => Nat.mod_lt _ (by decide)
    have ol : ∀ {x y : Nat}, x < 4294967296 → y < 4294967296 → x ||| y < 4294967296 := fun hx hy => Nat.or_lt_two_pow (n := 32) hx hy
    simp only [wrap_u32_id (hz 0), wrap_u32_id (hz 1), wrap_u32_id (hz 2), wrap_u32_id (hz 3), q24, q16, q8, or_u32 (ml _) (ml _), or_u32 (ol (ml _) (ml _)) (ml _), or_u32 (ol (ol (ml _) (ml _)) (ml _)) (hz 3)]
    simp only [be_or (g 0) (g 1) (g 2) (g 3)]
    have eb : ((((p.getD (4 * i + 0) 0 * 256 + p.getD (4 * i + 1) 0) * 256 + p.getD (4 * i + 2) 0) * 256 + p.getD (4 * i + 3) 0 : Nat) : Int) = ((be4 p i).toNat : Int) := by rw [be4_nat hx, Nat.add_zero]
    rw [eb]
    have hl : (first p i).length = i := first_len p i
    refine ai (j := i) A_64_uint32 (by omega) ?_
    refine H.sto (off := i) (by rw [List.length_append, wsV_len, List.length_replicate]; omega) fun h6 H6 => ih (i + 1) (by omega) ?_
    have := wsV_put (l := first p i) (n := 64) (w := be4 p i) (by omega)
    rw [hl] at H6 this
    rw [first_succ]
    exact this ▸ H6
theorem bl2 (hx : ∀ x ∈ p, x < 256) (kk : ∀ h', Hs h' (pt w T_64_uint32 (wsV (sched p)) :: L) → K (.exit 2) (hmac_Hash_block.X2 xh ⟨w, 0, none⟩) h') :
    ∀ (k i : Nat) {h : Heap}, i + k = 48 → Hs h (pt w T_64_uint32 (wsV (grow i (first p 16)) ++ List.replicate (64 - (grow i (first p 16)).length) (wV 0)) :: L) → hmac_Hash_block.L2 xh ⟨w, 0, none⟩ ((16 + i : Nat) : Int) K h := by
  intro k
  induction k with
  | zero =>
    intro i h hi H
    obtain rfl : i = 48 := by omega
    have hl := sched_len p
    unfold sched at hl kk
    rw [hl] at H
    exact hmac_Hash_block.L2_of (br_false rfl (kk h (by simpa using H)))
  | succ k ih =>
    intro i h hi H
    have hl : (grow i (first p 16)).length = 16 + i := by rw [grow_len, first_len]
    have hs := grow_succ i (first p 16)
    have hl2 : (grow (i + 1) (first p 16)).length = 16 + (i + 1) := by rw [grow_len, first_len]
    generalize hg : grow i (first p 16) = g at *
    have wm : ∀ j : Nat, j ≤ 16 → IntKind.i64.wrap (((16 + i : Nat) : Int) - (j : Int)) = ((16 + i - j : Nat) : Int) := fun j hj => by rw [wrap_i64_z (by omega) (by omega)]; omega
    have w16 := wm 16 (by omega); have w15 := wm 15 (by omega); have w7 := wm 7 (by omega); have w2 := wm 2 (by omega)
    simp only [Int.cast_ofNat_Int] at w16 w15 w7 w2
    have wi : IntKind.i64.wrap (((16 + i : Nat) : Int) + 1) = ((16 + (i + 1) : Nat) : Int) := by rw [wrap_i64_z (by omega) (by omega)]; omega
    have I : ∀ (j : Nat) {R : Addr → Heap → Prop}, j < 16 + i → (∀ t, cellH h t = some (wV (g.getD j 0)) → R t h) → hwp PP (Instr.indexAt T_64_uint32 (.pointer (some ⟨w, 0, none⟩)) (.int .i64 (j : Int))) (fun u h1 => ∃ t, u = .pointer (some t) ∧ R t h1) h := fun j R hj r =>
      ai (j := j) A_64_uint32 (by omega) (r _ (H.cell (off := j) (wsV_get (by omega))))
    refine hmac_Hash_block.L2_of (br_true (decide_eq_true (by omega)) ?_)
    simp only [w16, w15, w7, w2, wi]
    refine I (16 + i - 15) (by omega) fun t0 ht0 => ⟨_, ht0, I (16 + i - 2) (by omega) fun t1 ht1 => ⟨_, ht1, I (16 + i - 16) (by omega) fun t2 ht2 => ⟨_, ht2, ?_⟩⟩⟩
    refine ⟨_, right_pure (n := 7) (by omega) (by omega), _, rfl, _, right_pure (n := 18) (by omega) (by omega), _, rfl, ?_⟩
    refine I (16 + i - 7) (by omega) fun t3 ht3 => ⟨_, ht3, ?_⟩
    refine ⟨_, right_pure (n := 17) (by omega) (by omega), _, rfl, _, right_pure (n := 19) (by omega) (by omega), _, rfl, ?_⟩
    refine ai (j := 16 + i) A_64_uint32 (by omega) ?_
    refine H.sto (off := 16 + i) (by rw [List.length_append, wsV_len, List.length_replicate]; omega) fun h6 H6 => ?_
    have s3 := shrN (g.getD (16 + i - 15) 0) 3; have s10 := shrN (g.getD (16 + i - 2) 0) 10
    simp only [Int.cast_ofNat_Int] at s3 s10
    simp only [s3, s10, xor32, add32] at H6
    have en : g.getD (16 + i - 16) 0 + (rr (g.getD (16 + i - 15) 0) 7 ^^^ rr (g.getD (16 + i - 15) 0) 18 ^^^ g.getD (16 + i - 15) 0 >>> 3) + g.getD (16 + i - 7) 0 + (rr (g.getD (16 + i - 2) 0) 17 ^^^ rr (g.getD (16 + i - 2) 0) 19 ^^^ g.getD (16 + i - 2) 0 >>> 10) = nxt g := by unfold nxt sg0 sg1; rw [hl]
    rw [en] at H6
    refine ih (i + 1) (by omega) ?_
    have := wsV_put (l := g) (n := 64) (w := nxt g) (by omega)
    rw [hl] at this H6
    rw [hs]
    exact this ▸ H6
/-- The table of the rounds' words stands in the package's variable. -/
def KTab (h : Heap) : Prop := ∀ i : Nat, i < 64 → cellH h ⟨G_hmac_k, i, none⟩ = some (wV (ks.getD i 0))
def KTabL (L : List Assn) : Prop := ∀ h, Hs h L → KTab h
theorem KTabL.cons {A : Assn} (t : KTabL L) : KTabL (A :: L) := fun h H => t h H.tl
theorem KTab.keep {h h' : Heap} (t : KTab h) (e : ExtB h.size h h') : KTab h' := fun i hi => by
  have h0 := t i hi
  rw [cell_block (h := h)]
  · exact h0
  · exact e.2 _ (cell_lt h0)
theorem KTabL.ro {h0 : Heap} (t : KTab h0) : KTabL (ro h0 :: L) := fun h H => t.keep H.ro_below
def rk (s : S8) (ws : List W) (i : Nat) : S8 := rounds s ((ks.zip ws).take i)
theorem rk_succ {s : S8} {ws : List W} (hw : ws.length = 64) {i : Nat} (hi : i < 64) : rk s ws (i + 1) = rnd (rk s ws i) (ks.getD i 0) (ws.getD i 0) := by
  have hz : i < (ks.zip ws).length := by rw [List.length_zip, hw]; exact hi
  unfold rk
  rw [List.take_succ_eq_append_getElem hz, rounds_app, List.getElem_zip]
  have h1 : i < ks.length := hi
  simp [rounds, List.getD_eq_getElem?_getD, h1, hw, hi]
theorem bl3 {ws : List W} {s : Nat} {s0 : S8} (t : KTabL L) (hw : ws.length = 64) (kk : ∀ h', Hs h' (pt s T_8_uint32 (wsV (rk s0 ws 64).l) :: pt w T_64_uint32 (wsV ws) :: L) → K (.exit 4) (hmac_Hash_block.X4 xh ⟨s, 0, none⟩) h') :
    ∀ (k i : Nat) {h : Heap}, i + k = 64 → Hs h (pt s T_8_uint32 (wsV (rk s0 ws i).l) :: pt w T_64_uint32 (wsV ws) :: L) → hmac_Hash_block.L3 xh ⟨w, 0, none⟩ ⟨s, 0, none⟩ i K h := by
  intro k
  induction k with
  | zero =>
    intro i h hi H
    obtain rfl : i = 64 := by omega
    exact hmac_Hash_block.L3_of (br_false rfl (kk h H))
  | succ k ih =>
    intro i h hi H
    have hs := rk_succ (s := s0) hw (i := i) (by omega)
    generalize rk s0 ws i = S at *
    have hwi : cellH h ⟨w, i, none⟩ = some (wV (ws.getD i 0)) := H.m1.cell (off := i) (by have := wsV_get (l := ws) (m := []) (i := i) (by omega); simpa using this)
    have hki := t.cons.cons h H i (by omega)
    refine hmac_Hash_block.L3_of (br_true (decide_eq_true (by omega)) ?_)
    refine ai (j := 0) A_8_uint32 (by omega) ⟨_, H.cell (off := 0) rfl, ?_⟩
    refine ai (j := 1) A_8_uint32 (by omega) ⟨_, H.cell (off := 1) rfl, ?_⟩
    refine ai (j := 2) A_8_uint32 (by omega) ⟨_, H.cell (off := 2) rfl, ?_⟩
    refine ai (j := 4) A_8_uint32 (by omega) ⟨_, H.cell (off := 4) rfl, ?_⟩
    refine ai (j := 5) A_8_uint32 (by omega) ⟨_, H.cell (off := 5) rfl, ?_⟩
    refine ai (j := 6) A_8_uint32 (by omega) ⟨_, H.cell (off := 6) rfl, ?_⟩
    refine ai (j := 7) A_8_uint32 (by omega) ⟨_, H.cell (off := 7) rfl, ?_⟩
    refine ⟨_, right_pure (n := 6) (by omega) (by omega), _, rfl, _, right_pure (n := 11) (by omega) (by omega), _, rfl, _, right_pure (n := 25) (by omega) (by omega), _, rfl, ?_⟩
    refine ai (j := i) A_64_uint32 (by omega) ⟨_, hki, ?_⟩
    refine ai (j := i) A_64_uint32 (by omega) ⟨_, hwi, ?_⟩
    refine ⟨_, right_pure (n := 2) (by omega) (by omega), _, rfl, _, right_pure (n := 13) (by omega) (by omega), _, rfl, _, right_pure (n := 22) (by omega) (by omega), _, rfl, ?_⟩
    refine ai (j := 3) A_8_uint32 (by omega) ⟨_, H.cell (off := 3) rfl, ?_⟩
    simp only [not32, and32, or32, xor32, add32, ch_or, maj_or, inc (show i < 2 ^ 62 by omega)]
    refine H.wrs fun h11 H11 => ih (i + 1) (by omega) ?_
    rw [hs]; exact H11
def sumTo (x y : S8) (i : Nat) : List W := (List.range 8).map fun j => if j < i then y.l.getD j 0 + x.l.getD j 0 else y.l.getD j 0
theorem sumTo_succ (x y : S8) {i : Nat} (hi : i < 8) : (sumTo x y i).set i (y.l.getD i 0 + x.l.getD i 0) = sumTo x y (i + 1) := by
  have : i = 0 ∨ i = 1 ∨ i = 2 ∨ i = 3 ∨ i = 4 ∨ i = 5 ∨ i = 6 ∨ i = 7 := by omega
  rcases this with rfl | rfl | rfl | rfl | rfl | rfl | rfl | rfl <;> rfl
theorem sumTo_get (x y : S8) {i : Nat} (hi : i < 8) : (sumTo x y i)[i]? = some (y.l.getD i 0) := by
  have : i = 0 ∨ i = 1 ∨ i = 2 ∨ i = 3 ∨ i = 4 ∨ i = 5 ∨ i = 6 ∨ i = 7 := by omega
  rcases this with rfl | rfl | rfl | rfl | rfl | rfl | rfl | rfl <;> rfl
theorem sumTo_end (x y : S8) : sumTo x y 8 = (addS x y).l := by
  show [_, _, _, _, _, _, _, _] = [_, _, _, _, _, _, _, _]
  simp only [addS]
  rw [BitVec.add_comm x.a, BitVec.add_comm x.b, BitVec.add_comm x.c, BitVec.add_comm x.d, BitVec.add_comm x.e, BitVec.add_comm x.f, BitVec.add_comm x.g, BitVec.add_comm x.h]; rfl
theorem S8_get (x : S8) {i : Nat} (hi : i < 8) : (wsV x.l)[i]? = some (wV (x.l.getD i 0)) := by
  have := wsV_get (l := x.l) (m := []) (i := i) hi; simpa using this
theorem bl4 {s d : Nat} {x y : S8} {tl : List Value} (kk : ∀ h', Hs h' (pt d T_hmac_Hash (wsV (addS x y).l ++ tl) :: pt s T_8_uint32 (wsV x.l) :: L) → K (.exit 6) hmac_Hash_block.X6 h') :
    ∀ (k i : Nat) {h : Heap}, i + k = 8 → Hs h (pt d T_hmac_Hash (wsV (sumTo x y i) ++ tl) :: pt s T_8_uint32 (wsV x.l) :: L) → hmac_Hash_block.L4 (some ⟨d, 0, none⟩) ⟨s, 0, none⟩ i K h := by
  intro k
  induction k with
  | zero =>
    intro i h hi H
    obtain rfl : i = 8 := by omega
    rw [sumTo_end] at H
    exact hmac_Hash_block.L4_of (br_false rfl (kk h H))
  | succ k ih =>
    intro i h hi H
    have hl : (sumTo x y i).length = 8 := by simp [sumTo]
    refine hmac_Hash_block.L4_of (br_true (decide_eq_true (by omega)) ?_)
    refine ai (j := i) A_8_uint32 (by omega) ⟨_, H.cell (off := i) (v := wV (y.l.getD i 0)) (by rw [List.getElem?_append_left (by rw [wsV_len, hl]; omega), wsV, List.getElem?_map, sumTo_get x y (by omega)]; rfl), ?_⟩
    refine ai (j := i) A_8_uint32 (by omega) ⟨_, H.m1.cell (off := i) (S8_get x (by omega)), ?_⟩
    refine ai (j := i) A_8_uint32 (by omega) ?_
    simp only [add32, inc (show i < 2 ^ 62 by omega)]
    refine H.sto (off := i) (by rw [List.length_append, wsV_len, hl]; omega) fun h4 H4 => ih (i + 1) (by omega) ?_
    rw [← sumTo_succ x y (by omega)]
    have e : (wsV (sumTo x y i) ++ tl).set i (wV (y.l.getD i 0 + x.l.getD i 0)) = wsV ((sumTo x y i).set i (y.l.getD i 0 + x.l.getD i 0)) ++ tl := by
      rw [List.set_append_left _ _ (by rw [wsV_len, hl]; omega)]; simp [wsV, List.map_set]
    exact e ▸ H4
end
/-- A block is added. -/
theorem Block_spec {d n c : Nat} {a : Option Addr} {p : List Nat} {s : S8} {tl : List Value} (t : KTabL L) (hr : Gv L a (nV p)) (hp : p.length = 64) (hn : n = 64) (hx : ∀ x ∈ p, x < 256) (H : Hs h (pt d T_hmac_Hash (wsV s.l ++ tl) :: L))
    (kk : ∀ h', Hs h' (pt d T_hmac_Hash (wsV (blk s p).l ++ tl) :: L) → Q (.tuple #[]) h') : SpecH PP F_hmac_Hash_block [.pointer (some ⟨d, 0, none⟩), .slice a n c] h Q := by
  refine hmac_Hash_block.door ?_
  have H1 := H.new (t := T_64_uint32) (cs := Array.replicate 64 (.int .u32 0)) (xs := wsV (first p 0) ++ List.replicate (64 - (first p 0).length) (wV 0)) (by rw [← Array.toList_inj]; simp [first, wsV, wV])
  refine bl1 hr.cons hp hn hx (fun h2 H2 => ?_) 16 0 (by omega) H1
  refine hmac_Hash_block.L1_X0 ?_
  refine bl2 hx (fun h3 H3 => ?_) 48 0 (by omega) H2
  refine hmac_Hash_block.L2_X2 ?_
  refine ⟨_, _, _, _, _, _, _, _, H3.m1.rdo 0 (by rfl), ?_⟩
  have H4 := H3.new (t := T_8_uint32) (cs := #[(.int .u32 0), (.int .u32 0), (.int .u32 0), (.int .u32 0), (.int .u32 0), (.int .u32 0), (.int .u32 0), (.int .u32 0)]) (xs := wsV [0, 0, 0, 0, 0, 0, 0, 0])
  refine H4.wrs fun h5 H5 => ?_
  refine bl3 (s0 := s) (t.cons) (sched_len p) (fun h6 H6 => ?_) 64 0 (by omega) H5
  refine hmac_Hash_block.L3_X4 ?_
  have e64 : rk s (sched p) 64 = rounds s (ks.zip (sched p)) := by
    unfold rk; rw [List.take_of_length_le (by rw [List.length_zip, sched_len]; exact Nat.min_le_right _ _)]
  rw [e64] at H6
  refine bl4 (x := rounds s (ks.zip (sched p))) (y := s) (fun h7 H7 => ?_) 8 0 (by omega) (H6.m2)
  refine hmac_Hash_block.L4_X6 ?_
  exact kk h7 ((H7.m1.tl).m1.tl)
end Go.Proofs.YtjliiiejcalglaaDoor

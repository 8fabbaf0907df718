/- Contracts of the document's digest: words, a block. -/
import Derived.Test.YtjliiiejcalglaaDoorMac
set_option linter.unusedVariables false
set_option linter.unusedSimpArgs false
namespace Go.Proofs.YtjliiiejcalglaaDoor
open Go Go.HW Go.HW.Sha
variable {h : Heap} {L : List Assn} {Q : Value → Heap → Prop}
theorem turn_pure {x : W} {n : Nat} (h1 : 1 ≤ n) (h2 : n ≤ 31) : PureAt PP F_ref15_turn [wV x, .int .i64 n] (wV (rr x n)) := by
  intro h
  refine ref15_turn.door ?_
  have e : IntKind.i64.wrap (32 - (n : Int)) = ((32 - n : Nat) : Int) := by rw [wrap_i64_z (by omega) (by omega)]; omega
  simp only [e, shrN, shlN, or32]
  exact br_true (by simp) (br_true (by simp) ⟨rfl, by simp⟩)
theorem rk_spec (H : Hs h L) (kk : ∀ h', Hs h' L → Q (.agg (wsV ks).toArray) h') : SpecH PP F_ref15_k [] h Q := by
  refine ref15_k.door ?_
  have e0 : (Array.replicate 64 (Value.int .u32 0)) = (wsV (List.replicate 64 0)).toArray := by rw [← Array.toList_inj]; rfl
  have H1 := H.new (t := T_64_uint32) (cs := Array.replicate 64 (.int .u32 0)) (xs := wsV (List.replicate 64 0)) e0
  refine H1.wrs (vs := wsV ks) (fun h2 H2 => ⟨_, rfl, H2.rdc0, kk h2 H2.tl⟩) rfl (wsV_one _)
section
variable {a : Option Addr} {n c w t2 : Nat} {p : List Nat} {K : EP}
def acc (p : List Nat) (i : Nat) : Nat → Nat
  | 0 => 0
  | n + 1 => acc p i n * 256 + p.getD (4 * i + n) 0
theorem acc_lt (hx : ∀ x ∈ p, x < 256) (i : Nat) : ∀ n, acc p i n < 256 ^ n := by
  intro n
  induction n with
  | zero => exact Nat.one_pos
  | succ n ih => have := getD_lt hx (4 * i + n); rw [acc, Nat.pow_succ]; omega
def wcells (p : List Nat) (i v : Nat) : List Value := (wsV (first p i) ++ List.replicate (64 - i) (wV 0)).set i (.int .u32 (v : Int))
theorem wcells_zero {i : Nat} (hi : i < 64) : wcells p i 0 = wsV (first p i) ++ List.replicate (64 - i) (wV 0) := by
  unfold wcells
  have hl : (wsV (first p i)).length = i := by rw [wsV_len, first_len]
  apply List.ext_getElem?
  intro j
  rw [List.getElem?_set]
  split
  · rename_i hj; subst hj
    rw [if_pos (by rw [List.length_append, hl, List.length_replicate]; omega), List.getElem?_append_right (by omega), hl, Nat.sub_self, List.getElem?_replicate, if_pos (by omega)]; rfl
  · rfl
theorem wcells_four (hx : ∀ x ∈ p, x < 256) {i : Nat} (hi : i < 64) : wcells p i (acc p i 4) = wsV (first p (i + 1)) ++ List.replicate (64 - (i + 1)) (wV 0) := by
  have := wsV_put (l := first p i) (n := 64) (w := be4 p i) (by rw [first_len]; exact hi)
  rw [first_len, ← first_succ, first_len] at this
  unfold wcells
  have e : (Value.int .u32 ((acc p i 4 : Nat) : Int)) = wV (be4 p i) := by unfold wV; rw [be4_nat hx]; simp [acc]
  rw [e]; exact this
theorem rs2 (hr : Gv L a (nV p)) (hp : p.length = 64) (hn : n = 64) (hx : ∀ x ∈ p, x < 256) {i : Nat} (hi : i < 16) (kk : ∀ h', Hs h' (pt w T_64_uint32 (wsV (first p (i + 1)) ++ List.replicate (64 - (i + 1)) (wV 0)) :: L) → K (.exit 2) (ref15_schedule.X2 a n c ⟨t2, 0, none⟩ ⟨w, 0, none⟩ i) h') :
    ∀ (k j : Nat) {h : Heap}, j + k = 4 → Hs h (pt w T_64_uint32 (wcells p i (acc p i j)) :: L) → ref15_schedule.L2 a n c ⟨t2, 0, none⟩ ⟨w, 0, none⟩ i j K h := by
  intro k
  induction k with
  | zero =>
    intro j h hj H
    obtain rfl : j = 4 := by omega
    rw [wcells_four hx (by omega)] at H
    exact ref15_schedule.L2_of (br_false rfl (kk h H))
  | succ k ih =>
    intro j h hj H
    have hrd := hr _ H.tl
    have hlen : (wcells p i (acc p i j)).length = 64 := by unfold wcells; rw [List.length_set, List.length_append, wsV_len, first_len, List.length_replicate]; omega
    have hc : (wcells p i (acc p i j))[i]? = some (.int .u32 (acc p i j : Nat)) := by unfold wcells; rw [List.getElem?_set_self (by rw [List.length_append, wsV_len, first_len, List.length_replicate]; omega)]
    have ha := acc_lt hx i j
    have hb := getD_lt hx (4 * i + j)
    have ha2 : acc p i j < 2 ^ 24 := Nat.lt_of_lt_of_le ha (by rw [show 2 ^ 24 = 256 ^ 3 from rfl]; exact Nat.pow_le_pow_right (by decide) (by omega))
    have w1 : IntKind.i64.wrap (4 * (i : Int)) = ((4 * i : Nat) : Int) := by rw [wrap_i64_z (by omega) (by omega)]; simp
    have w2 : IntKind.i64.wrap (((4 * i : Nat) : Int) + (j : Int)) = ((4 * i + j : Nat) : Int) := by rw [wrap_i64_z (by omega) (by omega)]; simp
    have w3 : IntKind.u32.wrap (256 * (acc p i j : Int)) = ((256 * acc p i j : Nat) : Int) := by rw [wrap_u32_z (by omega) (by omega)]; simp
    have w4 : IntKind.u32.wrap ((p.getD (4 * i + j) 0 : Nat) : Int) = ((p.getD (4 * i + j) 0 : Nat) : Int) := wrap_u32_id (by omega)
    have w5 : IntKind.u32.wrap (((256 * acc p i j : Nat) : Int) + ((p.getD (4 * i + j) 0 : Nat) : Int)) = ((acc p i (j + 1) : Nat) : Int) := by
      rw [wrap_u32_z (by omega) (by omega), acc]; omega
    refine ref15_schedule.L2_of (br_true (decide_eq_true (by omega)) ?_)
    refine ai (j := i) A_64_uint32 (by omega) ⟨_, H.cell (off := i) hc, ?_⟩
    simp only [w1, w2, w3, inc (show j < 2 ^ 62 by omega)]
    refine idx E_sl_uint8 hrd (by omega) (by omega) (by rw [Int.toNat_natCast]; exact nV_getD (by omega)) fun t ht => ⟨_, ht, ?_⟩
    simp only [w4, w5]
    refine ai (j := i) A_64_uint32 (by omega) ?_
    refine H.sto (off := i) (by omega) fun h4 H4 => ih (j + 1) (by omega) ?_
    unfold wcells at H4 ⊢
    rw [List.set_set] at H4; exact H4
theorem rs1 (hr : Gv L a (nV p)) (hp : p.length = 64) (hn : n = 64) (hx : ∀ x ∈ p, x < 256) (kk : ∀ h', Hs h' (pt w T_64_uint32 (wsV (first p 16) ++ List.replicate (64 - 16) (wV 0)) :: L) → K (.exit 0) (ref15_schedule.X0 ⟨t2, 0, none⟩ ⟨w, 0, none⟩) h') :
    ∀ (k i : Nat) {h : Heap}, i + k = 16 → Hs h (pt w T_64_uint32 (wsV (first p i) ++ List.replicate (64 - i) (wV 0)) :: L) → ref15_schedule.L1 a n c ⟨t2, 0, none⟩ ⟨w, 0, none⟩ i K h := by
  intro k
  induction k with
  | zero =>
    intro i h hi H
    obtain rfl : i = 16 := by omega
    exact ref15_schedule.L1_of (br_false rfl (kk h H))
  | succ k ih =>
    intro i h hi H
    refine ref15_schedule.L1_of (br_true (decide_eq_true (by omega)) ?_)
    refine rs2 hr hp hn hx (by omega) (fun h2 H2 => ref15_schedule.L2_X2 ?_) 4 0 (by omega) (by rw [acc, wcells_zero (by omega)]; exact H)
    simp only [inc (show i < 2 ^ 62 by omega)]
    exact ih (i + 1) (by omega) H2
theorem rs3 (kk : ∀ h', Hs h' (pt w T_64_uint32 (wsV (sched p)) :: L) → K (.exit 4) (ref15_schedule.X4 ⟨t2, 0, none⟩ ⟨w, 0, none⟩) h') :
    ∀ (k i : Nat) {h : Heap}, i + k = 48 → Hs h (pt w T_64_uint32 (wsV (grow i (first p 16)) ++ List.replicate (64 - (grow i (first p 16)).length) (wV 0)) :: L) → ref15_schedule.L3 ⟨t2, 0, none⟩ ⟨w, 0, none⟩ ((16 + i : Nat) : Int) K h := by
  intro k
  induction k with
  | zero =>
    intro i h hi H
    obtain rfl : i = 48 := by omega
    have hl := sched_len p
    unfold sched at hl kk
    rw [hl] at H
    exact ref15_schedule.L3_of (br_false rfl (kk h (by simpa using H)))
  | succ k ih =>
    intro i h hi H
    have hl : (grow i (first p 16)).length = 16 + i := by rw [grow_len, first_len]
    have hs := grow_succ i (first p 16)
    generalize hg : grow i (first p 16) = g at *
    have wm : ∀ j : Nat, j ≤ 16 → IntKind.i64.wrap (((16 + i : Nat) : Int) - (j : Int)) = ((16 + i - j : Nat) : Int) := fun j hj => by rw [wrap_i64_z (by omega) (by omega)]; omega
    have w16 := wm 16 (by omega); have w15 := wm 15 (by omega); have w7 := wm 7 (by omega); have w2 := wm 2 (by omega)
    simp only [Int.cast_ofNat_Int] at w16 w15 w7 w2
    have wi : IntKind.i64.wrap (((16 + i : Nat) : Int) + 1) = ((16 + (i + 1) : Nat) : Int) := by rw [wrap_i64_z (by omega) (by omega)]; omega
    have I : ∀ (j : Nat) {R : Addr → Heap → Prop}, j < 16 + i → (∀ t, cellH h t = some (wV (g.getD j 0)) → R t h) → hwp PP (Instr.indexAt T_64_uint32 (.pointer (some ⟨w, 0, none⟩)) (.int .i64 (j : Int))) (fun u h1 => ∃ t, u = .pointer (some t) ∧ R t h1) h := fun j R hj r =>
      ai (j := j) A_64_uint32 (by omega) (r _ (H.cell (off := j) (wsV_get (by omega))))
    refine ref15_schedule.L3_of (br_true (decide_eq_true (by omega)) ?_)
    simp only [w16, w15, w7, w2, wi]
    refine I (16 + i - 15) (by omega) fun t0 ht0 => ⟨_, ht0, I (16 + i - 2) (by omega) fun t1 ht1 => ⟨_, ht1, ?_⟩⟩
    refine ⟨_, turn_pure (n := 7) (by omega) (by omega), _, rfl, _, turn_pure (n := 18) (by omega) (by omega), _, rfl, ?_⟩
    refine ⟨_, turn_pure (n := 17) (by omega) (by omega), _, rfl, _, turn_pure (n := 19) (by omega) (by omega), _, rfl, ?_⟩
    refine I (16 + i - 16) (by omega) fun t2 ht2 => ⟨_, ht2, I (16 + i - 7) (by omega) fun t3 ht3 => ⟨_, ht3, ?_⟩⟩
    refine ai (j := 16 + i) A_64_uint32 (by omega) ?_
    refine H.sto (off := 16 + i) (by rw [List.length_append, wsV_len, List.length_replicate]; omega) fun h6 H6 => ?_
    have s3 := shrN (g.getD (16 + i - 15) 0) 3; have s10 := shrN (g.getD (16 + i - 2) 0) 10
    simp only [Int.cast_ofNat_Int] at s3 s10
    simp only [s3, s10, xor32, add32] at H6
    have en : g.getD (16 + i - 16) 0 + (rr (g.getD (16 + i - 15) 0) 7 ^^^ rr (g.getD (16 + i - 15) 0) 18 ^^^ g.getD (16 + i - 15) 0 >>> 3) + g.getD (16 + i - 7) 0 + (rr (g.getD (16 + i - 2) 0) 17 ^^^ rr (g.getD (16 + i - 2) 0) 19 ^^^ g.getD (16 + i - 2) 0 >>> 10) = nxt g := by unfold nxt sg0 sg1; rw [hl]
    rw [en] at H6
    refine ih (i + 1) (by omega) ?_
    have := wsV_put (l := g) (n := 64) (w := nxt g) (by omega)
    rw [hl] at this H6
    rw [hs]
    exact this ▸ H6
theorem sched_spec (hr : Gv L a (nV p)) (hp : p.length = 64) (hn : n = 64) (hx : ∀ x ∈ p, x < 256) (H : Hs h L) (kk : ∀ h', Hs h' L → Q (.agg (wsV (sched p)).toArray) h') : SpecH PP F_ref15_schedule [.slice a n c] h Q := by
  refine ref15_schedule.door ?_
  dsimp only
  have e0 : (Array.replicate 64 (Value.int .u32 0)) = (wsV (List.replicate 64 0)).toArray := by rw [← Array.toList_inj]; simp [wsV, wV]
  have e1 : (Array.replicate 64 (Value.int .u32 0)) = (wsV (first p 0) ++ List.replicate (64 - 0) (wV 0)).toArray := by rw [← Array.toList_inj]; simp [first, wsV, wV]
  have H1 := H.new (t := T_64_uint32) (cs := Array.replicate 64 (.int .u32 0)) (xs := wsV (List.replicate 64 0)) e0
  generalize h.size = t2 at H1 ⊢
  generalize h.push (.cells (Array.replicate 64 (.int .u32 0)) T_64_uint32 (0, 0)) = h1 at H1 ⊢
  have H2 := H1.new (t := T_64_uint32) (cs := Array.replicate 64 (.int .u32 0)) (xs := wsV (first p 0) ++ List.replicate (64 - 0) (wV 0)) e1
  generalize h1.size = w at H2 ⊢
  generalize h1.push (.cells (Array.replicate 64 (.int .u32 0)) T_64_uint32 (0, 0)) = h2 at H2 ⊢
  refine rs1 hr.cons hp hn hx (fun h3 H3 => ?_) 16 0 (by omega) H2
  refine ref15_schedule.L1_X0 ?_
  have H3' : Hs h3 (pt w T_64_uint32 (wsV (grow 0 (first p 16)) ++ List.replicate (64 - (grow 0 (first p 16)).length) (wV 0)) :: pt t2 T_64_uint32 (wsV (List.replicate 64 0)) :: L) := by
    rw [grow, first_len]; exact H3
  refine rs3 (p := p) (fun h4 H4 => ?_) 48 0 (by omega) H3'
  have q : (wsV (sched p)).length = 64 := by rw [wsV_len]; exact sched_len p
  have o1 := wsV_one (sched p)
  generalize wsV (sched p) = z at *
  refine ref15_schedule.L3_X4 ⟨z, q, H4.rdc0, br_true (by simp [q]) ?_⟩
  exact H4.m1.wrs (fun h5 H5 => ⟨z, q, H5.rdc0, kk h5 H5.tl.tl⟩) (by rw [q, wsV_len, List.length_replicate]) o1
end
section
variable {w x t4 hb kb : Nat} {ws : List W} {K : EP} {s0 : S8}
theorem rb1 (hw : ws.length = 64) (kk : ∀ h', Hs h' (pt x T_8_uint32 (wsV (rk s0 ws 64).l) :: pt kb T_64_uint32 (wsV ks) :: pt w T_64_uint32 (wsV ws) :: L) → K (.exit 0) (ref15_block.X0 ⟨hb, 0, none⟩ ⟨t4, 0, none⟩ ⟨x, 0, none⟩) h') :
    ∀ (k i : Nat) {h : Heap}, i + k = 64 → Hs h (pt x T_8_uint32 (wsV (rk s0 ws i).l) :: pt kb T_64_uint32 (wsV ks) :: pt w T_64_uint32 (wsV ws) :: L) → ref15_block.L1 ⟨hb, 0, none⟩ ⟨t4, 0, none⟩ ⟨w, 0, none⟩ ⟨kb, 0, none⟩ ⟨x, 0, none⟩ i K h := by
  intro k
  induction k with
  | zero =>
    intro i h hi H
    obtain rfl : i = 64 := by omega
    exact ref15_block.L1_of (br_false rfl (kk h H))
  | succ k ih =>
    intro i h hi H
    have hs := rk_succ (s := s0) hw (i := i) (by omega)
    generalize rk s0 ws i = S at *
    have hwi : cellH h ⟨w, i, none⟩ = some (wV (ws.getD i 0)) := H.m2.cell (off := i) (by have := wsV_get (l := ws) (m := []) (i := i) (by omega); simpa using this)
    have hki : cellH h ⟨kb, i, none⟩ = some (wV (ks.getD i 0)) := H.m1.cell (off := i) (by have := wsV_get (l := ks) (m := []) (i := i) (by show i < 64; omega); simpa using this)
    refine ref15_block.L1_of (br_true (decide_eq_true (by omega)) ?_)
    refine ai (j := 4) A_8_uint32 (by omega) ⟨_, H.cell (off := 4) rfl, ?_⟩
    refine ai (j := 0) A_8_uint32 (by omega) ⟨_, H.cell (off := 0) rfl, ?_⟩
    refine ai (j := 7) A_8_uint32 (by omega) ⟨_, H.cell (off := 7) rfl, ?_⟩
    refine ⟨_, turn_pure (n := 6) (by omega) (by omega), _, rfl, _, turn_pure (n := 11) (by omega) (by omega), _, rfl, _, turn_pure (n := 25) (by omega) (by omega), _, rfl, ?_⟩
    refine ai (j := 5) A_8_uint32 (by omega) ⟨_, H.cell (off := 5) rfl, ?_⟩
    refine ai (j := 6) A_8_uint32 (by omega) ⟨_, H.cell (off := 6) rfl, ?_⟩
    refine ai (j := i) A_64_uint32 (by omega) ⟨_, hki, ?_⟩
    refine ai (j := i) A_64_uint32 (by omega) ⟨_, hwi, ?_⟩
    refine ⟨_, turn_pure (n := 2) (by omega) (by omega), _, rfl, _, turn_pure (n := 13) (by omega) (by omega), _, rfl, _, turn_pure (n := 22) (by omega) (by omega), _, rfl, ?_⟩
    refine ai (j := 1) A_8_uint32 (by omega) ⟨_, H.cell (off := 1) rfl, ?_⟩
    refine ai (j := 2) A_8_uint32 (by omega) ⟨_, H.cell (off := 2) rfl, ?_⟩
    refine ai (j := 1) A_8_uint32 (by omega) ⟨_, H.cell (off := 1) rfl, ?_⟩
    refine ai (j := 2) A_8_uint32 (by omega) ⟨_, H.cell (off := 2) rfl, ?_⟩
    refine ai (j := 0) A_8_uint32 (by omega) ⟨_, H.cell (off := 0) rfl, ?_⟩
    refine ai (j := 1) A_8_uint32 (by omega) ⟨_, H.cell (off := 1) rfl, ?_⟩
    refine ai (j := 2) A_8_uint32 (by omega) ⟨_, H.cell (off := 2) rfl, ?_⟩
    refine ai (j := 3) A_8_uint32 (by omega) ⟨_, H.cell (off := 3) rfl, ?_⟩
    refine ai (j := 4) A_8_uint32 (by omega) ⟨_, H.cell (off := 4) rfl, ?_⟩
    refine ai (j := 5) A_8_uint32 (by omega) ⟨_, H.cell (off := 5) rfl, ?_⟩
    refine ai (j := 6) A_8_uint32 (by omega) ⟨_, H.cell (off := 6) rfl, ?_⟩
    simp only [not32, and32, xor32, add32, inc (show i < 2 ^ 62 by omega)]
    refine H.wrs fun h11 H11 => ih (i + 1) (by omega) ?_
    rw [hs]; exact H11
def sumTo2 (x y : S8) (i : Nat) : List W := (List.range 8).map fun j => if j < i then x.l.getD j 0 + y.l.getD j 0 else x.l.getD j 0
theorem sumTo2_succ (x y : S8) {i : Nat} (hi : i < 8) : (sumTo2 x y i).set i (x.l.getD i 0 + y.l.getD i 0) = sumTo2 x y (i + 1) := by
  have : i = 0 ∨ i = 1 ∨ i = 2 ∨ i = 3 ∨ i = 4 ∨ i = 5 ∨ i = 6 ∨ i = 7 := by omega
  rcases this with rfl | rfl | rfl | rfl | rfl | rfl | rfl | rfl <;> rfl
theorem sumTo2_get (x y : S8) {i : Nat} (hi : i < 8) : (sumTo2 x y i)[i]? = some (x.l.getD i 0) := by
  have : i = 0 ∨ i = 1 ∨ i = 2 ∨ i = 3 ∨ i = 4 ∨ i = 5 ∨ i = 6 ∨ i = 7 := by omega
  rcases this with rfl | rfl | rfl | rfl | rfl | rfl | rfl | rfl <;> rfl
theorem rb2 {X Y : S8} (kk : ∀ h', Hs h' (pt x T_8_uint32 (wsV (addS X Y).l) :: pt hb T_8_uint32 (wsV Y.l) :: L) → K (.exit 2) (ref15_block.X2 ⟨t4, 0, none⟩ ⟨x, 0, none⟩) h') :
    ∀ (k i : Nat) {h : Heap}, i + k = 8 → Hs h (pt x T_8_uint32 (wsV (sumTo2 X Y i)) :: pt hb T_8_uint32 (wsV Y.l) :: L) → ref15_block.L2 ⟨hb, 0, none⟩ ⟨t4, 0, none⟩ ⟨x, 0, none⟩ i K h := by
  intro k
  induction k with
  | zero =>
    intro i h hi H
    obtain rfl : i = 8 := by omega
    have : sumTo2 X Y 8 = (addS X Y).l := rfl
    rw [this] at H
    exact ref15_block.L2_of (br_false rfl (kk h H))
  | succ k ih =>
    intro i h hi H
    have hl : (sumTo2 X Y i).length = 8 := by simp [sumTo2]
    refine ref15_block.L2_of (br_true (decide_eq_true (by omega)) ?_)
    refine ai (j := i) A_8_uint32 (by omega) ⟨_, H.cell (off := i) (v := wV (X.l.getD i 0)) (by rw [wsV, List.getElem?_map, sumTo2_get X Y (by omega)]; rfl), ?_⟩
    refine ai (j := i) A_8_uint32 (by omega) ⟨_, H.m1.cell (off := i) (S8_get Y (by omega)), ?_⟩
    refine ai (j := i) A_8_uint32 (by omega) ?_
    simp only [add32, inc (show i < 2 ^ 62 by omega)]
    refine H.sto (off := i) (by rw [wsV_len, hl]; omega) fun h4 H4 => ih (i + 1) (by omega) ?_
    rw [← sumTo2_succ X Y (by omega)]
    have e : (wsV (sumTo2 X Y i)).set i (wV (X.l.getD i 0 + Y.l.getD i 0)) = wsV ((sumTo2 X Y i).set i (X.l.getD i 0 + Y.l.getD i 0)) := by simp [wsV, List.map_set]
    exact e ▸ H4
end
theorem RBlock_spec {n c : Nat} {a : Option Addr} {p : List Nat} {s : S8} (hr : Gv L a (nV p)) (hp : p.length = 64) (hn : n = 64) (hx : ∀ x ∈ p, x < 256) (H : Hs h L)
    (kk : ∀ h', Hs h' L → Q (.agg (wsV (blk s p).l).toArray) h') : SpecH PP F_ref15_block [.agg (wsV s.l).toArray, .slice a n c] h Q := by
  refine ref15_block.door ?_
  dsimp only
  have e0 : (Array.replicate 64 (Value.int .u32 0)) = (wsV (List.replicate 64 0)).toArray := by rw [← Array.toList_inj]; simp [wsV, wV]
  have H1 := H.new (t := T_8_uint32) (cs := #[(.int .u32 s.a.toNat), (.int .u32 s.b.toNat), (.int .u32 s.c.toNat), (.int .u32 s.d.toNat), (.int .u32 s.e.toNat), (.int .u32 s.f.toNat), (.int .u32 s.g.toNat), (.int .u32 s.h.toNat)]) (xs := wsV s.l)
  generalize h.size = hb at H1 ⊢
  generalize h.push (.cells #[(.int .u32 s.a.toNat), (.int .u32 s.b.toNat), (.int .u32 s.c.toNat), (.int .u32 s.d.toNat), (.int .u32 s.e.toNat), (.int .u32 s.f.toNat), (.int .u32 s.g.toNat), (.int .u32 s.h.toNat)] T_8_uint32 (0, 0)) = h1 at H1 ⊢
  have H2 := H1.new (t := T_8_uint32) (cs := #[(.int .u32 0), (.int .u32 0), (.int .u32 0), (.int .u32 0), (.int .u32 0), (.int .u32 0), (.int .u32 0), (.int .u32 0)]) (xs := wsV [0, 0, 0, 0, 0, 0, 0, 0])
  generalize h1.size = t4 at H2 ⊢
  generalize h1.push (.cells #[(.int .u32 0), (.int .u32 0), (.int .u32 0), (.int .u32 0), (.int .u32 0), (.int .u32 0), (.int .u32 0), (.int .u32 0)] T_8_uint32 (0, 0)) = h2 at H2 ⊢
  refine sched_spec hr.cons.cons hp hn hx H2 fun h3 H3 => ?_
  have hw := sched_len p
  replace kk : ∀ h', Hs h' L → Q (.agg (wsV (addS (rounds s (ks.zip (sched p))) s).l).toArray) h' := kk
  generalize sched p = ws at hw kk
  refine ⟨_, rfl, ?_⟩
  have H4 := H3.new (t := T_64_uint32) (cs := Array.replicate 64 (.int .u32 0)) (xs := wsV (List.replicate 64 0)) e0
  refine br_true (by simp [wsV_len, hw]) (H4.wrs (fun h5 H5 => ?_) (by rw [wsV_len, wsV_len, hw, List.length_replicate]) (wsV_one _))
  refine rk_spec H5 fun h6 H6 => ⟨_, rfl, ?_⟩
  have H7 := H6.new (t := T_64_uint32) (cs := Array.replicate 64 (.int .u32 0)) (xs := wsV (List.replicate 64 0)) e0
  refine br_true rfl (H7.wrs (vs := wsV ks) (fun h8 H8 => ?_) rfl (wsV_one _))
  -- [k, w, t4, h, L]
  refine ⟨_, _, _, _, _, _, _, _, H8.m3.rdc0, ?_⟩
  have H9 := H8.new (t := T_8_uint32) (cs := #[(.int .u32 0), (.int .u32 0), (.int .u32 0), (.int .u32 0), (.int .u32 0), (.int .u32 0), (.int .u32 0), (.int .u32 0)]) (xs := wsV [0, 0, 0, 0, 0, 0, 0, 0])
  refine H9.wrs fun h10 H10 => ?_
  refine rb1 (s0 := s) hw (fun h11 H11 => ref15_block.L1_X0 ?_) 64 0 (by omega) H10
  have e64 : rk s ws 64 = rounds s (ks.zip ws) := by
    unfold rk; rw [List.take_of_length_le (by rw [List.length_zip, hw]; exact Nat.min_le_right _ _)]
  rw [e64] at H11
  generalize rounds s (ks.zip ws) = X at H11 kk
  -- [x, k, w, t4, h, L]
  refine rb2 (X := X) (Y := s) (fun h12 H12 => ref15_block.L2_X2 ?_) 8 0 (by omega) (H11.m4.m1)
  generalize addS X s = Z at H12 kk
  refine ⟨_, _, _, _, _, _, _, _, H12.rdc0, ?_⟩
  -- [x, h, k, w, t4, L]
  refine H12.m4.wrs (vs := wsV Z.l) (fun h13 H13 => ⟨_, _, _, _, _, _, _, _, H13.rdc0, ?_⟩) (by simp [wsV_len, S8_len]) (wsV_one _)
  exact kk h13 (H13.tl.tl.tl.tl.tl)
end Go.Proofs.YtjliiiejcalglaaDoor

/- Texts of the proof, laid together: The finder: hash, know, match; and the document's Match.; Find of the document; the iterator; Find of the program.; All and Find of the program.; What rows of tokens say, one behind the other (plain).; What is found says the data again, costs no more, and what stands twice is found (plain).; Contracts of package lens: steps, and what they say.; Contract of lens.Write: what it lays is read as the two lists.; Contract of lens.Read.; Contracts of package inflate: what is read is what the plain readers say.; Contracts of package inflate: fixed, head, copies.; Contracts of package inflate: symbols, blocks, read, Inflate.; Contracts of package inflate: the stream.; Contracts of package deflate: Stored, the bits' length, lengths and distances.; What the bits of tokens tell (plain).; Contracts of package deflate: lay.; Contracts of package deflate: Fixed and Dynamic.; Contracts of package deflate: Deflate.; Contracts: parts, equal bytes, the deflating stream.; Walks of the top: packs, unpacked.; Walk of the top: TopUnpacks.; Walk of the top: TopPacks.; Walk of the top: TopTokens.; The top's laws, behind the given row's own words. -/
import Derived.Test.YtmkjmmpldepknaaDoorP4
import Derived.Test.YtmkjmmpldepknaaDoorP2
import Derived.Test.YtmkjmmpldepknaaDoorRows
import Derived.Lib.LaidTab
import Derived.LaidSub
set_option linter.unusedVariables false
set_option linter.unusedSimpArgs false
set_option linter.unusedSectionVars false
set_option maxRecDepth 20000
namespace Go.Proofs.YtmkjmmpldepknaaDoor
open Go Go.HW
variable {h : Heap} {L : List Assn} {Q : Value → Heap → Prop}
theorem nVd {l : List Nat} {j : Nat} (hj : j < l.length) : (nV l)[j]? = some (.int .u8 (l.getD j 0 : Nat)) := by simp [nV, hj]
theorem part_get {D : List Nat} {p j k : Nat} (hk : k < j) (hj : p + j ≤ D.length) : (nV ((D.drop p).take j))[k]? = some (.int .u8 (D.getD (p + k) 0 : Nat)) := by
 rw [nVd (by rw [List.length_take, List.length_drop]; omega)]
 simp [List.getD_eq_getElem?_getD, List.getElem?_take, hk]
theorem lit_lt {D : List Nat} (hb : ∀ x ∈ D, x < 256) (k : Nat) : D.getD k 0 < 256 := by
 rw [List.getD_eq_getElem?_getD]
 cases e : D[k]? with
 | none => simp
 | some y => exact hb y (List.mem_of_getElem? e)
def finV (dv : Value) (last : List Nat) (pv : Value) (dn : Nat) : List Value := dv :: (nI last ++ [pv, .int .i64 dn])
theorem fin_len {dv pv : Value} {last : List Nat} {dn : Nat} (hl : last.length = 4096) : (finV dv last pv dn).length = 4099 := by simp [finV, y28, hl]
theorem fin_0 {dv pv : Value} {last : List Nat} {dn : Nat} : (finV dv last pv dn)[0]? = some dv := rfl
theorem fin_j {dv pv : Value} {last : List Nat} {dn j : Nat} (hl : last.length = 4096) (hj : j < 4096) : (finV dv last pv dn)[1 + j]? = some (.int .i64 (last.getD j 0 : Nat)) := by
 rw [finV, Nat.add_comm 1 j, List.getElem?_cons_succ, List.getElem?_append_left (by rw [y28]; omega), nI_get (by omega)]
theorem fin_p {dv pv : Value} {last : List Nat} {dn : Nat} (hl : last.length = 4096) : (finV dv last pv dn)[4097]? = some pv := by
 rw [finV, List.getElem?_cons_succ, List.getElem?_append_right (by rw [y28]; omega), y28, hl]; rfl
theorem fin_d {dv pv : Value} {last : List Nat} {dn : Nat} (hl : last.length = 4096) : (finV dv last pv dn)[4098]? = some (.int .i64 dn) := by
 rw [finV, List.getElem?_cons_succ, List.getElem?_append_right (by rw [y28]; omega), y28, hl]; rfl
theorem fin_sd {dv pv : Value} {last : List Nat} {dn d2 : Nat} (hl : last.length = 4096) : (finV dv last pv dn).set 4098 (.int .i64 (d2 : Nat)) = finV dv last pv d2 := by
 rw [finV, List.set_cons_succ, List.set_append_right _ _ (by rw [y28]; omega), y28, hl]; rfl
theorem fin_sj {dv pv : Value} {last : List Nat} {dn j v : Nat} (hl : last.length = 4096) (hj : j < 4096) : (finV dv last pv dn).set (1 + j) (.int .i64 (v : Nat)) = finV dv (last.set j v) pv dn := by
 rw [finV, Nat.add_comm 1 j, List.set_cons_succ, List.set_append_left _ _ (by rw [y28]; omega), nI_set]; rfl
structure FInv (D last prev : List Nat) (dn : Nat) : Prop where
 ll : last.length = 4096
 pl : prev.length = D.length
 la : ∀ x, x < 4096 → last.getD x 0 = lb D x dn
 pr : ∀ p, p < dn → prev.getD p 0 = lb D (hf D p) p
 dn : dn = 0 ∨ dn + 2 ≤ D.length
 D : D.length ≤ 16384
theorem getD_set {l : List Nat} {i j v : Nat} (hi : i < l.length) : (l.set i v).getD j 0 = if i = j then v else l.getD j 0 := by
 simp only [List.getD_eq_getElem?_getD, List.getElem?_set]
 split
 ·subst_vars; simp [hi]
 ·rfl
theorem FInv.step {D last prev : List Nat} {dn : Nat} (F : FInv D last prev dn) (h : dn + 3 ≤ D.length) : FInv D (last.set (hf D dn) (dn + 1)) (prev.set dn (lb D (hf D dn) dn)) (dn + 1) where
 ll := by simp [F.ll]
 pl := by simp [F.pl]
 la := fun x hx => by
  rw [getD_set (by rw [F.ll]; exact hf_lt _ _), lb, F.la x hx]
 pr := fun p hp => by
  rw [getD_set (by rw [F.pl]; omega)]
  split
  ·subst_vars; rfl
  ·exact F.pr p (by omega)
 dn := .inr (by omega)
 D := F.D
theorem FInv.new {D : List Nat} (h : D.length ≤ 16384) : FInv D (List.replicate 4096 0) (List.replicate D.length 0) 0 where
 ll := List.length_replicate ..
 pl := List.length_replicate ..
 la := fun x hx => by rw [List.getD_eq_getElem?_getD, List.getElem?_replicate, if_pos hx]; rfl
 pr := fun p hp => by omega
 dn := .inl rfl
 D := h
theorem hash_hs {f n c p : Nat} {D : List Nat} {da : OA} {xs : List Value} (hb : ∀ x ∈ D, x < 256) (h0 : xs[0]? = some (.slice da n c)) (hr : Gv L da (nV D)) (hn : D.length = n) (hnc : n ≤ c) (hn0 : da = none → c = 0) (hp : p + 3 ≤ n) (hn2 : n ≤ 20000)
  (H : Hs h (pt f y80 xs :: L)) (k : Q (.int .i64 (hf D p)) h) : SpecH PP z306 [.pointer (some ⟨f, 0, none⟩), .int .i64 p] h Q := by
 refine z305.door ⟨_, _, _, H.cell (off := 0) h0, ?_⟩
 dsimp only
 rw [show IntKind.i64.wrap ((p : Int) + 3) = ((p + 3 : Nat) : Int) by rw [wrapI (by omega) (by omega)]; omega]
 refine bytes_cutG y33 hr hn hnc hn0 (by omega) (by omega) fun a2 c2 r2 n2 _ _ => ⟨_, _, _, rfl, ?_⟩
 rw [show p + 3 - p = 3 by omega] at r2 ⊢
 have g0 := lit_lt hb p; have g1 := lit_lt hb (p + 1); have g2 := lit_lt hb (p + 2)
 refine idx y33 (r2 _ H.tl) (by omega) (by omega) (part_get (by decide) (by omega)) fun t ht => ⟨_, ht, ?_⟩
 refine idx y33 (r2 _ H.tl) (by omega) (by omega) (part_get (by decide) (by omega)) fun t ht => ⟨_, ht, ?_⟩
 refine idx y33 (r2 _ H.tl) (by omega) (by omega) (part_get (by decide) (by omega)) fun t ht => ⟨_, ht, ?_⟩
 have e : bAnd .i64 (bXor .i64 (bXor .i64 (sShl .i64 (IntKind.i64.wrap (D.getD (p + Int.toNat 0) 0 : Nat)) 8) (sShl .i64 (IntKind.i64.wrap (D.getD (p + Int.toNat 1) 0 : Nat)) 4)) (IntKind.i64.wrap (D.getD (p + Int.toNat 2) 0 : Nat))) 4095 = (hf D p : Int) := by
  rw [show p + Int.toNat 0 = p from rfl, show p + Int.toNat 1 = p + 1 from rfl, show p + Int.toNat 2 = p + 2 from rfl]
  unfold hf
  generalize D.getD p 0 = x at g0 ⊢
  generalize D.getD (p + 1) 0 = y at g1 ⊢
  generalize D.getD (p + 2) 0 = z at g2 ⊢
  rw [wrapI (by omega) (by omega), wrapI (by omega) (by omega), wrapI (by omega) (by omega)]
  have s8 : sShl .i64 (x : Int) 8 = ((x <<< 8 : Nat) : Int) := by rw [Nat.shiftLeft_eq]; exact shl_i64 (m := 8) (by omega) (by omega)
  have s4 : sShl .i64 (y : Int) 4 = ((y <<< 4 : Nat) : Int) := by rw [Nat.shiftLeft_eq]; exact shl_i64 (m := 4) (by omega) (by omega)
  have b8 : x <<< 8 < 2 ^ 62 := by rw [Nat.shiftLeft_eq]; omega
  have b4 : y <<< 4 < 2 ^ 62 := by rw [Nat.shiftLeft_eq]; omega
  rw [s8, s4, xor_i64 (by omega) (by omega)]
  have b2 : x <<< 8 ^^^ y <<< 4 < 2 ^ 62 := Nat.xor_lt_two_pow b8 b4
  rw [xor_i64 (by omega) (by omega)]
  have b3 : (x <<< 8 ^^^ y <<< 4) ^^^ z < 2 ^ 62 := Nat.xor_lt_two_pow b2 (by omega)
  exact and_i64 (b := 4095) (by omega) (by omega)
 rw [e]
 exact k
theorem at_d {f : Nat} : Addr.add ⟨f, 0, none⟩ 4098 = ⟨f, 4098, none⟩ := by rw [y47]
theorem at_p {f : Nat} : Addr.add ⟨f, 0, none⟩ 4097 = ⟨f, 4097, none⟩ := by rw [y47]
theorem at_1 {f : Nat} : Addr.add ⟨f, 0, none⟩ 1 = ⟨f, 1, none⟩ := by rw [y47]
theorem know_hs {f n c to dn pc : Nat} {D last prev : List Nat} {da pa : OA} (hb : ∀ x ∈ D, x < 256) (hr : Gv L da (nV D)) (hn : D.length = n) (hnc : n ≤ c) (hn0 : da = none → c = 0) (F : FInv D last prev dn) (ht : to + 3 ≤ n) (hdt : dn ≤ to)
  (H : Hs h (pt f y80 (finV (.slice da n c) last (.slice pa n pc) dn) :: own pa n pc y18 1 (nI prev) :: L))
  (k : ∀ h' last' prev', FInv D last' prev' to → Hs h' (pt f y80 (finV (.slice da n c) last' (.slice pa n pc) to) :: own pa n pc y18 1 (nI prev') :: L) → Q (.tuple #[]) h') :
  SpecH PP z308 [.pointer (some ⟨f, 0, none⟩), .int .i64 to] h Q := by
 refine z307.door ?_
 have hn2 : n ≤ 16384 := hn ▸ F.D
 have go : ∀ (r dn : Nat) {h : Heap} {last prev : List Nat}, r + dn = to → FInv D last prev dn → Hs h (pt f y80 (finV (.slice da n c) last (.slice pa n pc) dn) :: own pa n pc y18 1 (nI prev) :: L) → z307.L1 (some ⟨f, 0, none⟩) to (z307.K1 Q) h := by
  intro r
  induction r with
  | zero =>
   intro dn h last prev hd F H
   refine z307.L1_of ?_
   dsimp only [nilc]
   simp only [at_d]
   have c := H.cell (off := 4098) (fin_d F.ll)
   refine ⟨_, c, ?_⟩
   refine y5 (decide_eq_false (by omega)) ?_
   refine z307.L1_X0 ?_
   obtain rfl : dn = to := by omega
   exact k h last prev F H
  | succ r ih =>
   intro dn h last prev hd F H
   refine z307.L1_of ?_
   dsimp only [nilc]
   simp only [at_1, at_p, at_d]
   refine ⟨_, H.cell (off := 4098) (fin_d F.ll), y10 (decide_eq_true (by omega)) ⟨_, H.cell (off := 4098) (fin_d F.ll), ?_⟩⟩
   rw [wrapI (x := (dn : Int) + 3) (by omega) (by omega)]
   refine ⟨_, _, _, H.cell (off := 0) fin_0, y10 (decide_eq_true (by omega)) ⟨_, H.cell (off := 4098) (fin_d F.ll), ?_⟩⟩
   refine hash_hs hb fin_0 hr.cons hn hnc hn0 (by omega) (by omega) H ⟨_, rfl, _, _, _, H.cell (off := 4097) (fin_p F.ll), _, H.cell (off := 4098) (fin_d F.ll), ?_⟩
   have hx := hf_lt D dn
   have cj := H.cell (off := 1 + hf D dn) (fin_j F.ll hx) rfl
   refine aio (off := 1) A_4096_int hx ⟨_, cj, ?_⟩
   refine H.m1.idx_set y25 (by omega) (by omega) rfl fun h4 H4 => ⟨_, H4.m1.cell (off := 4098) (fin_d F.ll), ?_⟩
   rw [wrapI (by omega) (by omega)]
   refine aio (off := 1) A_4096_int hx ?_
   refine H4.m1.sto (off := 1 + hf D dn) (by rw [fin_len F.ll]; omega) fun h6 H6 => ?_
   rw [show ((dn : Int) + 1) = ((dn + 1 : Nat) : Int) by omega, fin_sj F.ll hx, Int.toNat_natCast, F.la _ hx, nI_set] at H6
   have F2 := F.step (by omega)
   refine ⟨_, H6.cell (off := 4098) (fin_d F2.ll), ?_⟩
   rw [wrapI (by omega) (by omega)]
   refine H6.sto (off := 4098) (by rw [fin_len F2.ll]; omega) fun h7 H7 => ?_
   rw [show ((dn : Int) + 1) = ((dn + 1 : Nat) : Int) by omega, fin_sd F2.ll] at H7
   exact ih (dn + 1) (by omega) F2 H7
 exact go (to - dn) dn (by omega) F H
theorem bst_one {D : List Nat} {i a : Nat} (ha : a < i) : bst D i (i - a) = if 3 ≤ lcp D i a ∧ lcp D i a > (bst D i (i - (a + 1))).1 then (lcp D i a, i - a) else bst D i (i - (a + 1)) := by
 rw [show i - a = i - (a + 1) + 1 by omega, bst, show i - (i - (a + 1) + 1) = a by omega]
theorem match_hs {f n c i dn pc : Nat} {D last prev : List Nat} {da pa : OA} (hb : ∀ x ∈ D, x < 256) (hr : Gv L da (nV D)) (hn : D.length = n) (hnc : n ≤ c) (hn0 : da = none → c = 0) (F : FInv D last prev dn) (hi : i ≤ n) (hdi : dn ≤ i)
  (H : Hs h (pt f y80 (finV (.slice da n c) last (.slice pa n pc) dn) :: own pa n pc y18 1 (nI prev) :: L))
  (k : ∀ h' last' prev' dn', FInv D last' prev' dn' → dn' ≤ i → Hs h' (pt f y80 (finV (.slice da n c) last' (.slice pa n pc) dn') :: own pa n pc y18 1 (nI prev') :: L) → Q (.tuple #[.int .i64 (mm D i).1, .int .i64 (mm D i).2]) h') :
  SpecH PP z310 [.pointer (some ⟨f, 0, none⟩), .int .i64 i] h Q := by
 have hn2 : n ≤ 16384 := hn ▸ F.D
 refine z309.door ?_
 dsimp only [nilc]
 rw [wrapI (x := (i : Int) + 3) (by omega) (by omega)]
 refine ⟨_, _, _, H.cell (off := 0) fin_0, (y20 _ _ _).2 ⟨fun e => ?_, fun e => ?_⟩⟩
 ·have e := of_decide_eq_true e
  have := k h last prev dn F hdi H
  rw [mm_short (by omega)] at this
  exact this
 have e := of_decide_eq_false e
 refine know_hs hb hr hn hnc hn0 F (by omega) hdi H fun h1 last1 prev1 F1 H1 => ⟨rfl, _, _, _, H1.cell (off := 0) fin_0, ?_⟩
 rw [wrapI (x := (n : Int) - i) (by omega) (by omega)]
 generalize hE : (if (n : Int) - i < 258 then (n : Int) - i else 258) = E
 obtain ⟨en, rfl⟩ := Int.eq_ofNat_of_zero_le (show 0 ≤ E by split at hE <;> omega)
 have hen : en ≤ 258 ∧ i + en ≤ n ∧ 3 ≤ en ∧ (en = 258 ∨ i + en = n) := by split at hE <;> omega
 refine hash_hs hb fin_0 hr.cons hn hnc hn0 (by omega) (by omega) H1 ⟨_, rfl, ?_⟩
 have hx := hf_lt D i
 simp only [at_1]
 refine aio (off := 1) A_4096_int hx ⟨_, H1.cell (off := 1 + hf D i) (fin_j F1.ll hx), ?_⟩
 rw [F1.la _ hx]
 have capped : ∀ p, lcp D i p ≤ en := fun p => by
  have h1 := lcp_le D i p
  have h2 := lcp_len (D := D) (i := i) (p := p) (by omega)
  omega
 have fin : ∀ {x : Nat × Nat}, mm D i = x → Q (.tuple #[.int .i64 x.1, .int .i64 x.2]) h1 := fun e => e ▸ k h1 last1 prev1 i F1 (Nat.le_refl _) H1
 have go : ∀ (m P : Nat), P ≤ m → P ≤ i → z309.L1 (some ⟨f, 0, none⟩) i (bst D i (i - P)).1 (bst D i (i - P)).2 en (IntKind.i64.wrap ((lb D (hf D i) P : Int) - 1)) (z309.K1 Q) h1 := by
  intro m
  induction m with
  | zero =>
   intro P hP hPi
   obtain rfl : P = 0 := by omega
   refine z309.L1_of (y5 (decide_eq_false (by rw [wrapI (by simp [lb]) (by simp [lb])]; simp [lb])) (z309.L1_X0 (fin rfl)))
  | succ m ih =>
   intro P hP hPi
   have hl := lb_le D (hf D i) P
   rw [wrapI (by omega) (by omega)]
   refine z309.L1_of ?_
   dsimp only
   refine (y20 _ _ _).2 ⟨fun e => ?_, fun e => z309.L1_X0 (fin ?_)⟩
   ·have e := of_decide_eq_true e
    obtain ⟨a, ha⟩ : ∃ a, lb D (hf D i) P = a + 1 := ⟨lb D (hf D i) P - 1, by omega⟩
    have hh := lb_hf ha
    have hg := bst_gap (D := D) hPi (a := a + 1) (by omega) (by omega)
    rw [ha, show ((a + 1 : Nat) : Int) - 1 = (a : Int) by omega, ← hg, wrapI (x := (i : Int) - a) (by omega) (by omega)]
    refine y5 (decide_eq_false (by omega)) ?_
    have q1 := bst_one (D := D) (i := i) (a := a) (by omega)
    have nxt : ∀ {x : Nat × Nat}, bst D i (i - a) = x → z309.K2 (z309.K1 Q) (.exit 1) (z309.X1 (some ⟨f, 0, none⟩) i x.1 x.2 en a) h1 := by
     rintro x rfl
     refine z309.L2_X1 ?_
     dsimp only [nilc]
     simp only [at_p]
     refine ⟨_, _, _, H1.cell (off := 4097) (fin_p F1.ll), ?_⟩
     refine idx y25 (H1.m1.rd) (by omega) (by omega) (by rw [Int.toNat_natCast]; exact nI_get (by rw [F1.pl]; omega)) fun t ht => ⟨_, ht, ?_⟩
     rw [F1.pr a (by omega), hh]
     exact ih a (by omega) (by omega)
    have inn : ∀ (r k : Nat), r + k = en → (∀ j, j < k → i + j < D.length ∧ D.getD (i + j) 0 = D.getD (a + j) 0) →
      z309.L2 (some ⟨f, 0, none⟩) i (bst D i (i - (a + 1))).1 (bst D i (i - (a + 1))).2 en a en k (z309.K2 (z309.K1 Q)) h1 := by
     intro r
     induction r with
     | zero =>
      intro k hk hj
      obtain rfl : k = en := by omega
      have hc : lcp D i a = k := lcp_is hen.1 hj (by rcases hen.2.2.2 with h | h; exact .inl h; exact .inr (by omega))
      refine z309.L2_of (y5 (decide_eq_false (by omega)) (z309.L2_X2 ?_))
      dsimp only
      refine (y20 _ _ _).2 ⟨fun e => z309.L1_Xret ?_, fun e => z309.L1_X0 (fin ?_)⟩
      ·have e := of_decide_eq_true e
       rw [wrapI (by omega) (by omega), show (i : Int) - a = ((i - a : Nat) : Int) by omega]
       rw [if_pos (by omega), hc] at q1
       refine fin (x := (k, i - a)) ?_
       rw [← q1]
       exact bst_skip (by omega) fun d _ _ => .inr (by rw [q1]; exact capped _)
      ·have e := of_decide_eq_false e
       exact bst_skip (by omega) fun d _ _ => .inr (by have := capped (i - d); omega)
     | succ r ih2 =>
      intro k hk hj
      refine z309.L2_of ?_
      dsimp only [nilc]
      rw [wrapI (x := (a : Int) + k) (by omega) (by omega), wrapI (x := (i : Int) + k) (by omega) (by omega)]
      refine y10 (decide_eq_true (by omega)) ⟨_, _, _, H1.cell (off := 0) fin_0, ?_⟩
      refine idx y33 (hr _ H1.tl.tl) (by omega) (by omega) (nVd (by omega)) fun t ht => ⟨_, ht, _, _, _, H1.cell (off := 0) fin_0, ?_⟩
      refine idx y33 (hr _ H1.tl.tl) (by omega) (by omega) (nVd (by omega)) fun t ht => ⟨_, ht, ?_⟩
      rw [show ((a : Int) + k).toNat = a + k by omega, show ((i : Int) + k).toNat = i + k by omega]
      refine (y20 _ _ _).2 ⟨fun e => ?_, fun e => ?_⟩
      ·have e : D.getD (a + k) 0 ≠ D.getD (i + k) 0 := fun q => (bne_iff_ne.1 e) (by rw [q])
       have hc : lcp D i a = k := lcp_is (by omega) hj (.inr fun h => e h.2.symm)
       have fj : ∀ b : Bool, decide (3 ≤ k ∧ k > (bst D i (i - (a + 1))).1) = b → z309.J1 (some ⟨f, 0, none⟩) i (bst D i (i - (a + 1))).1 (bst D i (i - (a + 1))).2 en a k b (z309.K2 (z309.K1 Q)) h1 := by
        rintro b rfl
        rw [hc] at q1
        refine z309.J1_of ((y20 _ _ _).2 ⟨fun e => ?_, fun e => ?_⟩)
        ·rw [if_pos (of_decide_eq_true e)] at q1
         dsimp only
         rw [wrapI (by omega) (by omega), show (i : Int) - a = ((i - a : Nat) : Int) by omega]
         exact nxt q1
        ·rw [if_neg (of_decide_eq_false e)] at q1
         exact nxt q1
       refine (y20 _ _ _).2 ⟨fun e => fj _ ?_, fun e => fj _ ?_⟩
       ·have e := of_decide_eq_true e
        exact decide_eq_decide.2 (by omega)
       ·have e := of_decide_eq_false e
        exact decide_eq_false (by omega)
      ·have e : D.getD (a + k) 0 = D.getD (i + k) 0 := Int.ofNat_inj.1 (bne_eq_false_iff_eq.1 e)
       rw [wrapI (by omega) (by omega)]
       refine ih2 (k + 1) (by omega) fun j hj2 => ?_
       by_cases ej : j = k
       ·subst ej; exact ⟨by omega, e.symm⟩
       ·exact hj j (by omega)
    exact inn en 0 (by omega) (fun j h => by omega)
   ·have e := of_decide_eq_false e
    have := bst_gap (D := D) hPi (a := 0) (by omega) (by omega)
    exact this
 have := go i i (Nat.le_refl _) (Nat.le_refl _)
 rw [Nat.sub_self] at this
 exact this
end Go.Proofs.YtmkjmmpldepknaaDoor

set_option maxRecDepth 20000
namespace Go.Proofs.YtmkjmmpldepknaaDoor
open Go Go.HW
variable {h : Heap} {L : List Assn} {Q : Value → Heap → Prop}
theorem tok_app {l : List Tok} {a : OA} {c : Nat} {t : Tok} {h : Heap} {K : VP} (hs : l.length ≤ 20000) (H : Hs h (own a l.length c y38 3 (l.flatMap tokV) :: L))
  (k : ∀ h' a' c', Hs h' (own a' (l ++ [t]).length c' y38 3 ((l ++ [t]).flatMap tokV) :: L) → K (.slice a' (l ++ [t]).length c') h') :
  hwp PP (Builtin.append_ #[y45, y45] y45 #[.slice a l.length c, .slice (some ⟨Array.size h, 0, none⟩) 1 1]) K (Array.push h (.cells #[.int .u8 t.lit, .int .i64 t.len, .int .i64 t.dist] y38 (0, 0))) := by
 refine H.app_vals y157 (m := 1) (ys := tokV t) rfl rfl (tokV_one t) (fun h' a' c' H' => ?_) (by omega) (by omega)
 have e : l.flatMap tokV ++ tokV t = (l ++ [t]).flatMap tokV := by simp
 rw [e] at H'
 have := k h' a' c'
 rw [List.length_append] at this
 exact this H'
theorem find_le (D : List Nat) : (find D).length ≤ 16384 := by
 unfold find
 split
 ·simp
 ·have := fd_len D D.length 0; omega
theorem All1_hs {y : Value} {t1 n c : Nat} {D : List Nat} {da : OA} (A E : Nat → Assn) (hb : ∀ x ∈ D, x < 256) (hr : Gv L da (nV D)) (hn : D.length = n) (hnc : n ≤ c) (hn0 : da = none → c = 0)
  (hy : ∀ (k : Nat) (hk : k < (find D).length) (M : List Assn) (h : Heap) (R : VP), Hs h (A k :: M) → (∀ h', Hs h' (A (k + 1) :: M) → R (.bool true) h') → (∀ h', Hs h' (E k :: M) → R (.bool false) h') → callV PP y [.agg #[.int .u8 ((find D)[k]).lit, .int .i64 ((find D)[k]).len, .int .i64 ((find D)[k]).dist]] R h)
  (H : Hs h (A 0 :: pt t1 y13 [.slice da n c] :: L)) (k1 : ∀ h', Hs h' (A (find D).length :: pt t1 y13 [.slice da n c] :: L) → Q (.tuple #[]) h')
  (k2 : ∀ k h', k < (find D).length → Hs h' (E k :: pt t1 y13 [.slice da n c] :: L) → Q (.tuple #[]) h') : SpecH PP z298 [y, .pointer (some ⟨t1, 0, none⟩)] h Q := by
 refine z297.door ?_
 dsimp only
 refine ⟨_, _, _, H.m1.cell (off := 0) rfl, (y20 _ _ _).2 ⟨fun e => ?_, fun e => ?_⟩⟩
 ·have e := of_decide_eq_true e
  have e0 : (find D).length = 0 := by unfold find; rw [if_pos (by omega)]; rfl
  rw [e0] at k1
  exact k1 h H
 have e := of_decide_eq_false e
 have hn2 : n ≤ 16384 := by omega
 have hfind : find D = fd D n 0 := by unfold find; rw [if_neg (by omega), hn]
 have fl := find_le D
 have go : ∀ (r i k dn : Nat) {f pc : Nat} {pa : OA} {last prev : List Nat} {h : Heap}, n ≤ i + r → i ≤ n → k ≤ (find D).length → (find D).drop k = fd D n i → FInv D last prev dn → dn ≤ i →
   Hs h (A k :: pt t1 y13 [.slice da n c] :: pt f y80 (finV (.slice da n c) last (.slice pa n pc) dn) :: own pa n pc y18 1 (nI prev) :: L) →
   z297.L1 y ⟨t1, 0, none⟩ ⟨f, 0, none⟩ i (z297.K1 Q) h := by
  intro r
  induction r with
  | zero =>
   intro i k dn f pc pa last prev h hi hin hk hl F hdi H
   refine z297.L1_of ⟨_, _, _, H.m1.cell (off := 0) rfl, y5 (decide_eq_false (by omega)) (z297.L1_X0 ?_)⟩
   rw [fd_end (by omega)] at hl
   have : k = (find D).length := by have := List.drop_eq_nil_iff.1 hl; omega
   subst this
   exact k1 h (((H.m2.tl).m2).tl)
  | succ r ih =>
   intro i k dn f pc pa last prev h hi hin hk hl F hdi H
   refine z297.L1_of ⟨_, _, _, H.m1.cell (off := 0) rfl, (y20 _ _ _).2 ⟨fun e => ?_, fun e => z297.L1_X0 ?_⟩⟩
   ·have e := of_decide_eq_true e
    have hml := mm_len (D := D) (i := i) (by omega)
    have hm2 := mm_le D i
    rw [fd_step (by omega) (by omega)] at hl
    have hk : k < (find D).length := by
     apply Nat.lt_of_not_le; intro hh
     rw [List.drop_of_length_le hh] at hl
     split at hl <;> cases hl
    rw [List.drop_eq_getElem_cons hk] at hl
    refine ⟨_, _, _, H.m1.cell (off := 0) rfl, ?_⟩
    refine idx y33 (hr _ H.tl.tl.tl.tl) (by omega) (by omega) (by rw [Int.toNat_natCast]; exact nVd (by omega)) fun t ht => ⟨_, ht, ?_⟩
    refine Hs.wrs (b := Array.size h) (xs := [.int .u8 0, .int .i64 0, .int .i64 0]) H.new (fun h3 H3 => ?_)
    generalize Array.size h = x at H3 ⊢
    have gM : Gv (pt x y38 [.int .u8 (D.getD i 0 : Nat), .int .i64 0, .int .i64 0] :: A k :: pt t1 y13 [.slice da n c] :: L) da (nV D) := hr.cons.cons.cons
    refine match_hs hb gM hn hnc hn0 F (by omega) hdi ((H3.m3.m4).m1) fun h4 last4 prev4 dn4 F4 hd4 H4 => ⟨_, _, rfl, ?_⟩
    have fin : ∀ {t : Tok} {st : Nat} {last prev : List Nat} {dn : Nat} {h : Heap}, t = (find D)[k] → (find D).drop (k + 1) = fd D n (i + st) → i + st ≤ n → 1 ≤ st → FInv D last prev dn → dn ≤ i + st →
      Hs h (pt x y38 (tokV t) :: pt f y80 (finV (.slice da n c) last (.slice pa n pc) dn) :: own pa n pc y18 1 (nI prev) :: A k :: pt t1 y13 [.slice da n c] :: L) →
      z297.J2 y ⟨t1, 0, none⟩ ⟨f, 0, none⟩ i ⟨x, 0, none⟩ st (z297.K1 Q) h := by
     intro t st last prev dn h et hl hst hst1 F hdn H
     refine z297.J2_of ⟨_, _, _, H.rdc0, ?_⟩
     subst et
     refine hy k hk _ _ _ H.tl.m2 (fun h' H' => ⟨_, rfl, y5 rfl ?_⟩) (fun h' H' => ⟨_, rfl, y10 rfl (z297.L1_Xret (k2 k h' hk ?_))⟩)
     ·dsimp only
      rw [show IntKind.i64.wrap ((i : Int) + (st : Int)) = ((i + st : Nat) : Int) by rw [wrapI (by omega) (by omega)]; omega]
      exact ih (i + st) (k + 1) dn (by omega) hst (by omega) hl F hdn ((H'.m3).m1)
     ·exact (((H'.m1).tl).m1).tl
    have lit : ∀ {last prev : List Nat} {dn : Nat} {h : Heap}, ((mm D i).1 = 0 ∨ (mm D (i + 1)).1 > (mm D i).1) → FInv D last prev dn → dn ≤ i + 1 →
      Hs h (pt f y80 (finV (.slice da n c) last (.slice pa n pc) dn) :: own pa n pc y18 1 (nI prev) :: pt x y38 [.int .u8 (D.getD i 0 : Nat), .int .i64 0, .int .i64 0] :: A k :: pt t1 y13 [.slice da n c] :: L) →
      z297.J2 y ⟨t1, 0, none⟩ ⟨f, 0, none⟩ i ⟨x, 0, none⟩ 1 (z297.K1 Q) h := fun hc F hd H => by
     rw [if_pos hc] at hl
     injection hl with hl1 hl2
     exact fin (t := ⟨D.getD i 0, 0, 0⟩) (st := 1) hl1.symm hl2 (by omega) (by omega) F hd H.m2
    refine (y20 _ _ _).2 ⟨fun e => ?_, fun e => ?_⟩
    ·have e := of_decide_eq_true e
     dsimp only
     rw [show IntKind.i64.wrap ((i : Int) + 1) = ((i + 1 : Nat) : Int) by rw [wrapI (by omega) (by omega)]; omega]
     refine match_hs hb gM hn hnc hn0 F4 (by omega) (by omega) H4 fun h5 last5 prev5 dn5 F5 hd5 H5 => ⟨_, _, rfl, ?_⟩
     refine (y20 _ _ _).2 ⟨fun e2 => ?_, fun e2 => ?_⟩
     ·have e2 := of_decide_eq_true e2
      rw [if_neg (by omega)] at hl
      injection hl with hl1 hl2
      refine Hs.wrs (b := x) H5.m2 (fun h6 H6 => ?_)
      exact fin (t := ⟨0, (mm D i).1, (mm D i).2⟩) hl1.symm hl2 (by omega) (by omega) F5 (by omega) H6
     ·have e2 := of_decide_eq_false e2
      exact lit (.inr (by omega)) F5 hd5 H5
    ·have e := of_decide_eq_false e
     exact lit (.inl (by omega)) F4 (by omega) H4
   ·have e := of_decide_eq_false e
    rw [fd_end (by omega)] at hl
    have : k = (find D).length := by have := List.drop_eq_nil_iff.1 hl; omega
    subst this
    exact k1 h (((H.m2.tl).m2).tl)
 have start : ∀ {h : Heap} {b : Nat}, Hs h (pt b y18 (List.replicate n (.int .i64 0)) :: A 0 :: pt t1 y13 [.slice da n c] :: L) →
   z297.J1 y ⟨t1, 0, none⟩ ⟨h.size, 0, none⟩ Q (Array.push h (.cells (([(.slice da n c)] : List Value) ++ (List.replicate 4096 (.int .i64 0) : List Value) ++ ([(.slice (some ⟨b, 0, none⟩) n n), (.int .i64 0)] : List Value)).toArray y80 (0, 0))) := by
  intro h b H
  refine z297.J1_of ?_
  have H2 := H.pt_all (n := n) (by simp)
  have e : ([(.slice da n c)] : List Value) ++ (List.replicate 4096 (.int .i64 0) : List Value) ++ ([(.slice (some ⟨b, 0, none⟩) n n), (.int .i64 0)] : List Value) = finV (.slice da n c) (List.replicate 4096 0) (.slice (some ⟨b, 0, none⟩) n n) 0 := by
   rw [finV, nI_rep]; simp only [List.singleton_append, List.cons_append]; rfl
  rw [e]
  have H3 := H2.new (t := y80) (cs := (finV (.slice da n c) (List.replicate 4096 0) (.slice (some ⟨b, 0, none⟩) n n) 0).toArray) (xs := finV (.slice da n c) (List.replicate 4096 0) (.slice (some ⟨b, 0, none⟩) n n) 0) rfl
  have F := FInv.new (D := D) (by omega)
  rw [← nI_rep, ← hn] at H3
  rw [← hn]
  rw [← hn] at go
  exact go D.length 0 0 0 (by omega) (by omega) (by omega) (by rw [List.drop_zero, hfind, hn]) F (by omega) (H3.m3.m3)
 refine ⟨_, _, _, H.m1.cell (off := 0) rfl, ?_, ?_, trivial⟩
 ·refine ⟨_, _, _, H.m1.cell (off := 0) rfl, ?_⟩
  refine H.make y25 rfl rfl (Nat.le_refl _) (by omega) (by omega) fun h3 b H3 => ⟨_, _, _, rfl, start H3⟩
 ·refine H.make y25 rfl rfl (Nat.le_refl _) (by omega) (by omega) fun h3 b H3 => ⟨_, _, _, rfl, _, _, _, H3.m2.cell (off := 0) rfl, start H3⟩
end Go.Proofs.YtmkjmmpldepknaaDoor

set_option maxRecDepth 20000
namespace Go.Proofs.YtmkjmmpldepknaaDoor
open Go Go.HW
variable {h : Heap} {L : List Assn} {Q : Value → Heap → Prop}
theorem All_hs {a : OA} {n c : Nat} {D : List Nat} (hr : Gv L a (nV D)) (hn : D.length = n) (hn2 : n < 2 ^ 40) (hn0 : a = none → n = 0) (H : Hs h L)
  (k : ∀ h' t1 b d, n ≤ d → (b = none → d = 0) → Hs h' (pt t1 y13 [.slice b n d] :: own b n d y15 1 (nV D) :: L) → Q (.func (.func z298) #[] #[.pointer (some ⟨t1, 0, none⟩)]) h') : SpecH PP z296 [.slice a n c] h Q := by
 refine z295.door ?_
 refine (H.own_nil _ _).app_sl y33 (m := n) (ys := nV D) (hr _ H) (by rw [nV_len]; omega) hn0 (nV_one _) (fun h1 b d H1 => ⟨_, _, _, rfl, ?_⟩) (by omega) (by omega)
 rw [Nat.zero_add, List.nil_append] at H1
 rw [Nat.zero_add]
 dsimp only
 have hd := H1.own_le
 have hb0 : b = none → d = 0 := fun e => by subst e; exact H1.own_none
 refine (H1.new (t := y13) (xs := [.slice none 0 0])).sto (off := 0) (by simp) fun h3 H3 => ?_
 exact k h3 _ b d hd hb0 H3
def TA (out l df : Nat) (Lp : Loop) (tk : List Tok) (k : Nat) : Assn := fun m => ∃ a c, Sp [ob l (.loop Lp), ob df (.deferred (some [])), pt out y45 [.slice a (tk.take k).length c], own a (tk.take k).length c y38 3 ((tk.take k).flatMap tokV)] m
theorem TA_open {out l df : Nat} {Lp : Loop} {tk : List Tok} {k : Nat} {M : List Assn} : Hs h (TA out l df Lp tk k :: M) ↔ ∃ a c, Hs h (ob l (.loop Lp) :: ob df (.deferred (some [])) :: pt out y45 [.slice a (tk.take k).length c] :: own a (tk.take k).length c y38 3 ((tk.take k).flatMap tokV) :: M) := by
 constructor
 ·intro H
  obtain ⟨a, H⟩ := Hs.ex.1 H
  obtain ⟨c, H⟩ := Hs.ex.1 H
  exact ⟨a, c, Hs.app.1 H⟩
 ·rintro ⟨a, c, H⟩
  exact Hs.ex.2 ⟨a, Hs.ex.2 ⟨c, Hs.app.2 H⟩⟩
theorem Find_hs {a : OA} {n c : Nat} {D : List Nat} (hb : ∀ x ∈ D, x < 256) (hr : Gv L a (nV D)) (hn : D.length = n) (hn2 : n < 2 ^ 40) (hn0 : a = none → n = 0) (H : Hs h L)
  (k : ∀ h' a c, Hs h' (own a (find D).length c y38 3 ((find D).flatMap tokV) :: L) → Q (.slice a (find D).length c) h') : SpecH PP z304 [.slice a n c] h Q := by
 obtain ⟨m, sm, s0, HE⟩ := H.em
 refine SpecH.keepD (z303.door ?_)
 dsimp only
 have H1 := HE.new (t := y45) (cs := #[.slice none 0 0]) (xs := [.slice none 0 0])
 generalize Array.push h (.cells #[.slice none 0 0] y45 (0, 0)) = h1 at H1 ⊢
 generalize Array.size h = out at H1 ⊢
 refine All_hs ((hr.em sm (M := [])).cons) hn hn2 hn0 H1 fun h2 t1 b d hd hb0 H2 => ⟨_, rfl, ?_⟩
 refine ⟨z298, #[], #[.pointer (some ⟨t1, 0, none⟩)], rfl, by kernel_rfl, fun fn tmps hf => ?_⟩
 generalize hL : (Loop.mk .ready none fn tmps #[7] (z303.cd 116) (z303.cd 117) h2.size) = Lp
 have H3 := (H2.push (.deferred (some []))).push (.loop Lp)
 rw [Array.size_push] at H3
 generalize (Array.push (Array.push h2 (.deferred (some []))) (.loop Lp)) = h3 at H3 ⊢
 generalize Array.size h2 = df at H3 hL ⊢
 have fl := find_le D
 have fin : ∀ {h' : Heap}, Hs h' (TA out (df + 1) df Lp (find D) (find D).length :: pt t1 y13 [.slice b n d] :: own b n d y15 1 (nV D) :: [Em m]) →
   ∃ L, h'[df + 1]? = some (.loop L) ∧ L.state ≠ .busy ∧ h'[df]? = some (.deferred (some [])) ∧
    jumpK L.pending (fun e h_1 => z303.K1 (fun v h' => KeepD h h' → Q v h') e (mkFr 0 13 [(2, (.slice none 0 0)), (3, (.pointer (some ⟨out, 0, none⟩)))]) h_1) (h'.setIfInBounds (df + 1) (.loop { L with state := .exhausted })) := by
  intro h' H
  obtain ⟨a2, c2, H⟩ := TA_open.1 H
  rw [List.take_length] at H
  refine ⟨Lp, H.get, by rw [← hL]; simp, H.m1.get, ?_⟩
  have H4 := H.set (.loop { Lp with state := .exhausted })
  generalize h'.setIfInBounds (df + 1) (.loop { Lp with state := .exhausted }) = h4 at H4 ⊢
  rw [show Lp.pending = none by rw [← hL]]
  show z303.K1 _ .normal _ _
  refine z303.R1_outn0 ⟨_, _, _, (H4.m2).cell (off := 0) rfl, fun h5 tk kd => ?_⟩
  refine k h5 a2 c2 (Hs.takes (M := []) (?_ : Hs h4 (_ :: Em m :: [])) sm s0 tk kd fun m h => nd_own h)
  exact H4.m3.mono_tl fun m' l => (Sp.tl (Sp.tl (Sp.tl (Sp.tl (Sp.tl l)))))
 show SpecH PP z298 [_, _] _ _
 refine All1_hs (da := b) (D := D) (L := own b n d y15 1 (nV D) :: [Em m]) (TA out (df + 1) df Lp (find D)) (fun _ _ => False) hb Gv.own hn hd hb0 ?_ ?_ (fun h' H' => fin H') (fun k h' _ H' => absurd H' fun ⟨_, _, f, _⟩ => f)
 ·intro k hk M h R H rt _
  obtain ⟨a2, c2, H⟩ := TA_open.1 H
  refine z303.R1_yield (t2 := none) (t2n := 0) (t2c := 0) (out3 := ⟨out, 0, none⟩) H.get (by rw [← hL]) (by rw [← hL]) (by rw [← hL]) (by rw [← hL]; exact hf) (z303.R1_of ?_)
  dsimp only
  refine Hs.wrs (b := Array.size h) (xs := [.int .u8 0, .int .i64 0, .int .i64 0]) H.new (fun h2 H2 => ?_)
  generalize Array.size h = x at H2 ⊢
  refine ⟨Lp, H2.m1.get, by rw [← hL], ?_⟩
  have H3 := H2.m1.set (.loop { Lp with state := .busy })
  generalize h2.setIfInBounds (df + 1) (.loop { Lp with state := .busy }) = h3 at H3 ⊢
  refine ⟨_, _, _, H3.m3.cell (off := 0) rfl, _, _, _, H3.m1.rdc0, ?_⟩
  have hlt : ((find D).take k).length ≤ 20000 := by rw [List.length_take]; omega
  refine tok_app (t := (find D)[k]) hlt H3.m4 fun h5 a5 c5 H5 => ⟨_, _, _, rfl, ?_⟩
  refine (H5.m4).sto (off := 0) (by simp) fun h6 H6 => ?_
  refine ⟨{ Lp with state := .busy }, H6.m2.get, ?_⟩
  have eL : endL { Lp with state := .busy } none = .loop Lp := by rw [← hL]; rfl
  rw [eL]
  have H7 := H6.m2.set (.loop Lp)
  refine rt _ (TA_open.2 ⟨a5, c5, ?_⟩)
  have et : (find D).take k ++ [(find D)[k]] = (find D).take (k + 1) := (List.take_succ_eq_append_getElem hk).symm
  rw [et] at H7
  exact (H7.m4.m4.tl).m1
 ·refine TA_open.2 ⟨none, 0, ?_⟩
  rw [List.take_zero]
  have H4 := H3.own_nil y38 3
  exact H4.m5.m3.m3
end Go.Proofs.YtmkjmmpldepknaaDoor

set_option maxRecDepth 20000
namespace Go.Proofs.YtmkjmmpldepknaaDoor
open Go Go.HW
theorem cp_shift (a : List Nat) {d : Nat} : ∀ (n : Nat) (out : List Nat), 1 ≤ d → d ≤ out.length → cp d n (a ++ out) = a ++ cp d n out
 | 0, out, _, _ => rfl
 | n + 1, out, h1, h2 => by
  rw [cp, cp, List.length_append, List.append_assoc]
  have e : (a ++ out).getD (a.length + out.length - d) 0 = out.getD (out.length - d) 0 := by
   rw [List.getD_eq_getElem?_getD, List.getElem?_append_right (by omega), List.getD_eq_getElem?_getD]
   congr 2; omega
  rw [e]
  exact cp_shift a n _ h1 (by simp; omega)
theorem ex_ok {lim : Nat} {t : Tok} {l : List Tok} {out r : List Nat} (h : exGo lim (t :: l) out = (0, r)) : may t out.length = true ∧ out.length + one t ≤ lim ∧ exGo lim l (step t out) = (0, r) := by
 rw [exGo] at h
 split at h
 ·cases h
 ·rename_i hm
  split at h
  ·cases h
  ·exact ⟨by simpa using hm, by omega, h⟩
theorem ex_ge {lim : Nat} : ∀ {l : List Tok} {out r : List Nat}, exGo lim l out = (0, r) → out.length ≤ r.length
 | [], out, r, h => by cases h; exact Nat.le_refl _
 | t :: l, out, r, h => by
  obtain ⟨h1, h2, h3⟩ := ex_ok h
  have := ex_ge h3
  rw [step_len h1] at this
  omega
theorem exAll_def (l : List Tok) : exAll l 16384 = exGo 16384 l [] := by unfold exAll; rw [if_neg (by omega)]; rfl
theorem ck_exAll (l : List Tok) : (exAll l 16384).1 = ckGo l 0 := ck_ex l []
end Go.Proofs.YtmkjmmpldepknaaDoor

set_option maxRecDepth 20000
namespace Go.Proofs.YtmkjmmpldepknaaDoor
open Go Go.HW
theorem take_next {D : List Nat} {j : Nat} (hj : j < D.length) : D.take j ++ [D.getD j 0] = D.take (j + 1) := by
 rw [List.take_succ_eq_append_getElem hj]; simp [hj]
theorem cp_data {D : List Nat} {d : Nat} : ∀ (r j : Nat), j + r ≤ D.length → 1 ≤ d → d ≤ j → (∀ k, k < r → D.getD (j + k) 0 = D.getD (j + k - d) 0) → cp d r (D.take j) = D.take (j + r)
 | 0, j, _, _, _, _ => rfl
 | r + 1, j, h1, h2, h3, h4 => by
  have e : (D.take j).getD ((D.take j).length - d) 0 = D.getD j 0 := by
   have h0 := h4 0 (by omega)
   rw [Nat.add_zero] at h0
   rw [h0, List.length_take, Nat.min_eq_left (by omega)]
   simp only [List.getD_eq_getElem?_getD, List.getElem?_take]
   rw [if_pos (by omega)]
  rw [cp, e, take_next (by omega), cp_data r (j + 1) (by omega) h2 (by omega) fun k hk => ?_]
  ·congr 1; omega
  ·have := h4 (k + 1) (by omega)
   rw [show j + 1 + k = j + (k + 1) by omega]; exact this
theorem mm_tok {D : List Nat} {i : Nat} (hi : i ≤ D.length) (h : (mm D i).1 ≠ 0) : 3 ≤ (mm D i).1 ∧ (mm D i).1 ≤ 258 ∧ i + (mm D i).1 ≤ D.length ∧ 1 ≤ (mm D i).2 ∧ (mm D i).2 ≤ i ∧ ∀ k, k < (mm D i).1 → D.getD (i + k) 0 = D.getD (i + k - (mm D i).2) 0 := by
 have h1 := mm_le D i
 have h2 := mm_len hi
 unfold mm at *
 rcases bst_spec D i i with ⟨e, _⟩ | ⟨g1, g2, g3, g4, g5⟩
 ·rw [e] at h; exact absurd rfl h
 ·refine ⟨g1, h1.1, h2, g2, g3, fun k hk => ?_⟩
  rw [g4] at hk
  have := (lcp_eq hk).2
  rw [this]; congr 1; omega
theorem may_tok {n d i : Nat} (h3 : 3 ≤ n) (h2 : n ≤ 258) (d1 : 1 ≤ d) (d2 : d ≤ i) (d3 : d ≤ 32768) : may ⟨0, n, d⟩ i = true := by
 unfold may
 rw [if_neg (show ¬ (n : Int) = 0 by omega)]
 exact decide_eq_true ⟨rfl, (by omega : (3 : Int) ≤ n), (by omega : (n : Int) ≤ 258), (by omega : (1 : Int) ≤ d), (by omega : (d : Int) ≤ 32768), (by omega : (d : Int) ≤ i)⟩
theorem fd_cases {D : List Nat} {f i : Nat} (hi : i < D.length) (hf : D.length ≤ i + f) (hD : D.length ≤ 16384) : ∃ t, fd D f i = t :: fd D f (i + one t) ∧ may t i = true ∧ step t (D.take i) = D.take (i + one t) ∧ i + one t ≤ D.length ∧
  ((t = ⟨D.getD i 0, 0, 0⟩ ∧ ((mm D i).1 = 0 ∨ (mm D (i + 1)).1 > (mm D i).1)) ∨ (t = ⟨0, (mm D i).1, (mm D i).2⟩ ∧ (mm D i).1 ≠ 0)) := by
 rw [fd_step hi hf]
 split
 ·rename_i h
  refine ⟨⟨D.getD i 0, 0, 0⟩, rfl, rfl, ?_, by show i + 1 ≤ _; omega, .inl ⟨rfl, h⟩⟩
  exact take_next hi
 ·rename_i h
  obtain ⟨g1, g2, g3, g4, g5, g6⟩ := mm_tok (Nat.le_of_lt hi) (by omega)
  have e1 : one ⟨0, (mm D i).1, (mm D i).2⟩ = (mm D i).1 := by unfold one; simp only; rw [if_pos (by omega), Int.toNat_natCast]
  refine ⟨⟨0, (mm D i).1, (mm D i).2⟩, by rw [e1], ?_, ?_, by rw [e1]; omega, .inr ⟨rfl, by omega⟩⟩
  ·exact may_tok g1 g2 g4 g5 (by omega)
  ·rw [e1]; unfold step; simp only
   rw [if_neg (by omega), Int.toNat_natCast, Int.toNat_natCast]
   exact cp_data _ _ g3 g4 g5 g6
theorem fd_ex {D : List Nat} {lim : Nat} (hD : D.length ≤ 16384) : ∀ (r f i : Nat), D.length ≤ i + r → D.length ≤ i + f → i ≤ D.length → i ≤ lim → exGo lim (fd D f i) (D.take i) = if D.length ≤ lim then (0, D) else (2, [])
 | 0, f, i, h0, hf, hi, hl => by
  rw [fd_end (by omega), exGo, if_pos (by omega), List.take_of_length_le (by omega)]
 | r + 1, f, i, h0, hf, hi, hl => by
  by_cases e : i = D.length
  ·rw [fd_end (by omega), exGo, if_pos (by omega), List.take_of_length_le (by omega)]
  obtain ⟨t, h1, h2, h3, h4, _⟩ := fd_cases (D := D) (f := f) (i := i) (by omega) hf hD
  have hlen : (D.take i).length = i := by rw [List.length_take]; omega
  have := one_le h2
  rw [h1, exGo, hlen, if_neg (by rw [h2]; simp)]
  split
  ·rw [if_neg (by omega)]
  ·rw [h3]
   exact fd_ex hD r f (i + one t) (by omega) (by omega) h4 (by omega)
theorem find_ex {D : List Nat} {lim : Nat} (hD : D.length ≤ 16384) : exGo lim (find D) [] = if D.length ≤ lim then (0, D) else (2, []) := by
 unfold find
 rw [if_neg (by omega)]
 exact fd_ex hD D.length D.length 0 (by omega) (by omega) (by omega) (by omega)
theorem find_ck {D : List Nat} (hD : D.length ≤ 16384) : ckGo (find D) 0 = 0 := by
 rw [← ck_exAll, exAll_def, find_ex hD, if_pos hD]
def pc (x : Nat) : Int := if x ≥ 144 then 9 else 8
def plainS (l : List Nat) : Int := (l.map pc).sum
def ones (l : List Tok) : Nat := (l.map one).sum
def cn (L : Nat) : List Tok → Nat → Nat
 | [], _ => 0
 | t :: l, s => (if s + one t > L then 1 else 0) + cn L l (s + one t)
end Go.Proofs.YtmkjmmpldepknaaDoor

set_option maxRecDepth 20000
namespace Go.Proofs.YtmkjmmpldepknaaDoor
open Go Go.HW Go.HW.Inf
variable {h : Heap} {L : List Assn} {Q : Value → Heap → Prop} {a : OA} {n c : Nat}
def wides : List Nat := (List.range 19).map widthOf
def froms : List Nat := (List.range 19).map fromOf
structure Tb (L : List Assn) : Prop where
 order : Gv L (some ⟨G_lens_order, 0, none⟩) (nI Inf.order)
 wide : Gv L (some ⟨G_lens_wide, 0, none⟩) (nI wides)
 frm : Gv L (some ⟨G_lens_from, 0, none⟩) (nI froms)
theorem Tb.cons {A : Assn} (T : Tb L) : Tb (A :: L) := ⟨T.order.cons, T.wide.cons, T.frm.cons⟩
theorem tbl {b i : Nat} {l : List Nat} (g : Gv L (some ⟨b, 0, none⟩) (nI l)) (hl : l.length = 19) (hi : i < 19) (H : Hs h L) {R : Addr → Heap → Prop} (K : ∀ t, (∀ h', Hs h' L → cellH h' t = some (.int .i64 (l.getD i 0 : Nat))) → R t h) :
  hwp PP (Instr.indexAt y98 (.pointer (some ⟨b, 0, none⟩)) (.int .i64 (i : Int))) (fun u h1 => ∃ t, u = .pointer (some t) ∧ R t h1) h := by
 refine ai A_19_int hi (K _ fun h' H' => ?_)
 have := (g h' H').cell (nI_get (l := l) (j := i) (by omega))
 rwa [y47, Nat.zero_add] at this
theorem wide_at {i : Nat} (h : i < 19) : wides.getD i 0 = widthOf i := by simp [wides, h]
theorem from_at {i : Nat} (h : i < 19) : froms.getD i 0 = fromOf i := by simp [froms, h]
theorem width_le (i : Nat) : widthOf i ≤ 7 := by unfold widthOf; repeat' split
                                                 all_goals omega
theorem from_le (i : Nat) : fromOf i ≤ 11 := by unfold fromOf; repeat' split
                                                all_goals omega
theorem add_hs {l : List Nat} {s x N : Nat} (T : Tb L) (hs : s ≤ 18) (hx : x < 2 ^ widthOf s) (hN : N ≤ 100000) (hn : l.length = n) (hn2 : n ≤ 100000) (H : Hs h (own a n c y18 1 (nI l) :: L))
  (k1 : ∀ l', add l s x N = some l' → ∀ h' a' c', Hs h' (own a' l'.length c' y18 1 (nI l') :: L) → Q (.tuple #[.slice a' l'.length c', .bool true]) h')
  (k0 : add l s x N = none → ∀ h', Hs h' (own a n c y18 1 (nI l) :: L) → Q (.tuple #[.slice none 0 0, .bool false]) h') :
  SpecH PP z286 [.slice a n c, .agg #[.int .i64 (s : Nat), .int .i64 (x : Nat)], .int .i64 (N : Nat)] h Q := by
 refine z285.door ?_
 dsimp only
 have H1 := H.new (t := y73) (cs := #[.int .i64 (s : Nat), .int .i64 (x : Nat)]) (xs := [.int .i64 (s : Nat), .int .i64 (x : Nat)]) rfl
 generalize Array.size h = b at H1 ⊢
 generalize Array.push h _ = h1 at H1 ⊢
 have c0 := H1.cell (off := 0) rfl (a := ⟨b, 0, none⟩) rfl
 have c1 := H1.cell (off := 1) rfl (a := ⟨b, 1, none⟩) rfl
 simp only [y47, Nat.zero_add]
 have hw7 := width_le s
 have hp : 2 ^ widthOf s ≤ 2 ^ 7 := Nat.pow_le_pow_right (by decide) hw7
 refine ⟨_, c0, y5 (decide_eq_false (by omega)) ⟨_, c0, y5 (decide_eq_false (by omega)) ⟨_, c1, y5 (decide_eq_false (by omega)) ⟨_, c1, _, c0, ?_⟩⟩⟩⟩
 refine tbl T.cons.cons.wide rfl (by omega) H1 fun t ht => ⟨_, ht _ H1, y10 (decide_eq_true (by omega)) ?_⟩
 rw [wide_at (by omega)]
 rw [shl1 (by omega), decide_eq_false (by omega)]
 refine z285.J1_of (y5 rfl ⟨_, c0, _, c0, ?_⟩)
 simp only [y47, Nat.zero_add]
 have hk : ∀ k : Nat, k = (if s > 15 then fromOf s + x else 1) → k ≤ 1000 → 1 ≤ k → ∀ v0 : Nat, v0 = (if s > 15 then 0 else s) → z285.J2 a n c (N : Nat) ⟨b, 0, none⟩ (v0 : Nat) (k : Nat) Q h1 := by
  intro k hke hk2 hk1 v0 hv0
  have J3 : ∀ v : Nat, v = (if s = 16 then l.getD (l.length - 1) 0 else if s > 15 then 0 else s) → (¬ (s = 16 ∧ l = [])) → z285.J3 a n c (N : Nat) (v : Nat) (k : Nat) Q h1 := by
   intro v hv hne
   refine z285.J3_of ?_
   dsimp only
   rw [show IntKind.i64.wrap ((n : Int) + (k : Int)) = ((n + k : Nat) : Int) by rw [wz (by omega) (by omega)]; omega]
   have hadd : add l s x N = if l.length + k > N then none else some (l ++ List.replicate k v) := by
    unfold add
    rw [if_neg hne, ← hke, ← hv]
   refine (y20 _ _ _).2 ⟨fun e => ?_, fun e => ?_⟩
   ·have e := of_decide_eq_true e
    exact k0 (by rw [hadd, if_pos (by omega)]) h1 H1.tl
   ·have e := of_decide_eq_false e
    have H2 := H1.new (t := y18) (cs := #[.int .i64 (v : Nat)]) (xs := nI [v]) rfl
    refine y158 (v := v) (k := k) (a := some ⟨Array.size h1, 0, none⟩) (fun h H => H.ptrd (off := 0) (by simp [nI])) hk1 (by omega) (by simp) H2 fun h3 b3 H3 => ⟨_, _, _, rfl, ?_⟩
    have H4 : Hs h3 (own a n c y18 1 (nI l) :: own (some ⟨b3, 0, none⟩) k k y18 1 (nI (List.replicate k v)) :: L) := (H3.m3.m1.m2.tl |> fun H => H) |> fun H => by
     have := H3.m1.tl.m1.tl
     exact this.m1
    refine H4.app_sl y25 (H4.m1.rd) (by rw [y28]; simp) (fun e => by cases e) (nI_one _) (fun h5 a5 c5 H5 => ⟨_, _, _, rfl, ?_⟩) (by omega) (by omega)
    have := k1 (l ++ List.replicate k v) (by rw [hadd, if_neg (by omega)]) h5 a5 c5
    rw [List.length_append, List.length_replicate, hn] at this
    refine this ?_
    rw [nI_app]; exact H5.m1.tl
  refine z285.J2_of ⟨_, c0, ?_⟩
  refine (y20 _ _ _).2 ⟨fun e => ?_, fun e => ?_⟩
  ·have e16 : s = 16 := by have := beq_iff_eq.1 e; omega
   refine (y20 _ _ _).2 ⟨fun e2 => ?_, fun e2 => ?_⟩
   ·have e2 : n = 0 := by have := beq_iff_eq.1 e2; omega
    have : l = [] := List.eq_nil_of_length_eq_zero (by omega)
    exact k0 (by unfold add; rw [if_pos ⟨e16, this⟩]) h1 H1.tl
   ·have e2 : n ≠ 0 := by intro hh; rw [hh] at e2; simp at e2
    dsimp only
    rw [show IntKind.i64.wrap ((n : Int) - 1) = ((n - 1 : Nat) : Int) by rw [wz (by omega) (by omega)]; omega]
    refine ixI y25 (fun h H => H.m1.rd) hn (by omega) H1 fun t ht => ⟨_, ht, ?_⟩
    refine J3 _ ?_ (fun hh => by rw [hh.2] at hn; simp at hn; omega)
    rw [if_pos e16, hn]
  ·have e16 : s ≠ 16 := by intro hh; rw [hh] at e; simp at e
   refine J3 _ ?_ (fun hh => e16 hh.1)
   rw [if_neg e16]; exact hv0
 refine (y20 _ _ _).2 ⟨fun e => ?_, fun e => ?_⟩
 ·have e := of_decide_eq_true e
  refine ⟨_, c0, ?_⟩
  refine tbl T.cons.cons.frm rfl (by omega) H1 fun t ht => ⟨_, ht _ H1, _, c1, ?_⟩
  have hf := from_le s
  have hfp := from_pos hs x
  rw [from_at (by omega)]
  rw [show IntKind.i64.wrap (((fromOf s : Nat) : Int) + ((x : Nat) : Int)) = ((fromOf s + x : Nat) : Int) by rw [wz (by omega) (by omega)]; omega]
  rw [if_pos (by omega)] at hfp
  exact hk _ (by rw [if_pos (by omega)]) (by omega) hfp 0 (by rw [if_pos (by omega)])
 ·have e := of_decide_eq_false e
  exact hk 1 (by rw [if_neg (by omega)]) (by omega) (by omega) s (by rw [if_neg (by omega)])
def stpV (s : Stp) : List Value := [.int .i64 (s.1 : Nat), .int .i64 (s.2 : Nat)]
theorem stpV_len (s : Stp) : (stpV s).length = 2 := rfl
theorem stpV_one (s : Stp) : ∀ v ∈ stpV s, oneC v = true := by intro v hv; simp [stpV] at hv; rcases hv with rfl | rfl <;> rfl
def Stps (o : Nat) (r : List Stp) : Assn := fun m => ∃ b c, Sp [pt o y54 [.slice b r.length c], own b r.length c y73 2 (r.flatMap stpV)] m
theorem Stps_iff {o : Nat} {r : List Stp} : Hs h (Stps o r :: L) ↔ ∃ b c, Hs h (pt o y54 [.slice b r.length c] :: own b r.length c y73 2 (r.flatMap stpV) :: L) := by
 unfold Stps; simp only [Hs.ex, Hs.app, List.cons_append, List.nil_append]
theorem step_more {o : Nat} {r : List Stp} {s : Stp} {K : Heap → Prop} (hr : r.length ≤ 100000) (H : Hs h (Stps o r :: L)) (k : ∀ h', Hs h' (Stps o (r ++ [s]) :: L) → K h') :
  ∃ (t17 : OA) (t17n t17c : Nat), cellH h ⟨o, 0, none⟩ = some (.slice t17 t17n t17c) ∧
   hwp PP (Builtin.append_ #[y54, y54] y54 #[(.slice t17 t17n t17c), (.slice (some ⟨Array.size h, 0, none⟩) 1 1)]) (fun v_2 h4 => ∃ (t26 : OA) (t26n t26c : Nat), v_2 = (.slice t26 t26n t26c) ∧
    wr ⟨o, 0, none⟩ (.slice t26 t26n t26c) K h4) (Array.push h (.cells #[(.int .i64 (s.1 : Nat)), (.int .i64 (s.2 : Nat))] y73 (0, 0))) := by
 obtain ⟨b, c, H1⟩ := Stps_iff.1 H
 refine ⟨_, _, _, H1.cell (off := 0) rfl rfl, ?_⟩
 refine H1.m1.app_vals y175 (m := 1) (ys := stpV s) rfl rfl (stpV_one s) (fun h3 a3 c3 H3 => ⟨_, _, _, rfl, ?_⟩) (by omega) (by omega)
 refine H3.m1.sto (off := 0) (by simp) (fun h4 H4 => k h4 (Stps_iff.2 ⟨a3, c3, ?_⟩))
 have e : (r ++ [s]).flatMap stpV = r.flatMap stpV ++ stpV s := by rw [List.flatMap_append]; simp
 rw [e, List.length_append, List.length_singleton]
 exact H4
structure StpsOk (N : Nat) (r : List Stp) (l : List Nat) : Prop where
 says : adds N r [] = some l
 ok : ∀ s ∈ r, s.1 ≤ 18 ∧ s.2 < 2 ^ widthOf s.1
theorem StpsOk.len {N : Nat} {r : List Stp} {l : List Nat} (h : StpsOk N r l) : r.length ≤ l.length := by
 have := (adds_len (fun s hs => (h.ok s hs).1) h.says).1; simpa using this
theorem StpsOk.more {N : Nat} {r : List Stp} {l l' : List Nat} {s : Stp} (h : StpsOk N r l) (h1 : s.1 ≤ 18 ∧ s.2 < 2 ^ widthOf s.1) (e : add l s.1 s.2 N = some l') : StpsOk N (r ++ [s]) l' := by
 refine ⟨?_, fun t ht => ?_⟩
 ·rw [adds_app, h.says]; simp [adds, e]
 ·rcases List.mem_append.1 ht with ht | ht
  ·exact h.ok t ht
  ·rw [List.mem_singleton.1 ht]; exact h1
theorem StpsOk.nil (N : Nat) : StpsOk N [] [] := ⟨rfl, fun _ h => by cases h⟩
theorem getD_last {l : List Nat} {v k : Nat} (h : 0 < k) : (l ++ List.replicate k v).getD ((l ++ List.replicate k v).length - 1) 0 = v := by
 obtain ⟨k, rfl⟩ : ∃ k', k = k' + 1 := ⟨k - 1, by omega⟩
 rw [List.replicate_succ', ← List.append_assoc]
 simp [List.getD_eq_getElem?_getD]
theorem repeat_hs {o N sym top v : Nat} {l : List Nat} (T : Tb L) (hsym : 16 ≤ sym ∧ sym ≤ 18) (htop : fromOf sym ≤ top ∧ top < fromOf sym + 2 ^ widthOf sym) (hN : N ≤ 1000) (hv : sym ≠ 16 → v = 0) :
  ∀ (q m : Nat) {r : List Stp} {h : Heap} {Q : VP}, m ≤ q → StpsOk N r l → (sym = 16 → l ≠ [] ∧ l.getD (l.length - 1) 0 = v) → l.length + m ≤ N → Hs h (Stps o r :: L) →
  (∀ h' r' m', m' ≤ m → m' < fromOf sym → StpsOk N r' (l ++ List.replicate (m - m') v) → Hs h' (Stps o r' :: L) → Q (.int .i64 (m' : Nat)) h') → SpecH PP z280 [.int .i64 (m : Nat), .int .i64 (sym : Nat), .int .i64 (top : Nat), P_ o] h Q := by
 have hf := from_le sym
 have hw7 := width_le sym
 have hp : 2 ^ widthOf sym ≤ 2 ^ 7 := Nat.pow_le_pow_right (by decide) hw7
 have hf3 : 3 ≤ fromOf sym := by
  have : sym = 16 ∨ sym = 17 ∨ sym = 18 := by omega
  rcases this with rfl | rfl | rfl <;> decide
 have go : ∀ (q m : Nat) {r : List Stp} {l : List Nat} {h : Heap} {Q : VP}, m ≤ q → StpsOk N r l → (sym = 16 → l ≠ [] ∧ l.getD (l.length - 1) 0 = v) → l.length + m ≤ N → Hs h (Stps o r :: L) →
   (∀ h' r' m', m' ≤ m → m' < fromOf sym → StpsOk N r' (l ++ List.replicate (m - m') v) → Hs h' (Stps o r' :: L) → Q (.int .i64 (m' : Nat)) h') → z279.L1 (m : Nat) (sym : Nat) (top : Nat) ⟨o, 0, none⟩ (z279.K1 Q) h := by
  intro q
  induction q with
  | zero =>
   intro m r l h Q hm hr hl hlN H k
   refine z279.L1_of ?_
   refine tbl T.cons.frm rfl (by omega) H fun t ht => ⟨_, ht _ H, ?_⟩
   rw [from_at (by omega)]
   refine y5 (decide_eq_false (by omega)) (z279.L1_X0 (k h r m (Nat.le_refl _) (by omega) ?_ H))
   simpa using hr
  | succ q ih =>
   intro m r l h Q hm hr hl hlN H k
   have hrl := hr.len
   refine z279.L1_of ?_
   refine tbl T.cons.frm rfl (by omega) H fun t ht => ⟨_, ht _ H, ?_⟩
   rw [from_at (by omega)]
   refine (y20 _ _ _).2 ⟨fun e => ?_, fun e => ?_⟩
   ·have e := of_decide_eq_true e
    have emin : (if ((top : Nat) : Int) < ((m : Nat) : Int) then ((top : Nat) : Int) else ((m : Nat) : Int)) = ((min m top : Nat) : Int) := by split <;> omega
    dsimp only
    rw [emin]
    generalize hkk : min m top = kk
    obtain ⟨b, cc, H1⟩ := Stps_iff.1 H
    refine ⟨_, _, _, H1.cell (off := 0) rfl rfl, ?_⟩
    refine tbl T.cons.frm rfl (by omega) H fun t ht => ⟨_, ht _ H, ?_⟩
    rw [from_at (by omega), show IntKind.i64.wrap (((kk : Nat) : Int) - ((fromOf sym : Nat) : Int)) = ((kk - fromOf sym : Nat) : Int) by rw [wz (by omega) (by omega)]; omega]
    rw [show IntKind.i64.wrap (((m : Nat) : Int) - ((kk : Nat) : Int)) = ((m - kk : Nat) : Int) by rw [wz (by omega) (by omega)]; omega]
    refine H1.m1.app_vals y175 (m := 1) (ys := stpV (sym, kk - fromOf sym)) rfl rfl (stpV_one _) (fun h3 a3 c3 H3 => ⟨_, _, _, rfl, ?_⟩) (by omega) (by omega)
    refine H3.m1.sto (off := 0) (by simp) fun h4 H4 => ?_
    have H5 : Hs h4 (Stps o (r ++ [(sym, kk - fromOf sym)]) :: L) := Stps_iff.2 ⟨a3, c3, by
     have e : (r ++ [((sym, kk - fromOf sym) : Stp)]).flatMap stpV = r.flatMap stpV ++ stpV (sym, kk - fromOf sym) := by rw [List.flatMap_append]; simp
     rw [e, List.length_append, List.length_singleton]; exact H4⟩
    have hadd : add l sym (kk - fromOf sym) N = some (l ++ List.replicate kk v) := by
     unfold add
     rw [if_neg (fun hh => (hl hh.1).1 hh.2), if_pos (show sym > 15 by omega), show fromOf sym + (kk - fromOf sym) = kk by omega, if_neg (by omega)]
     by_cases e16 : sym = 16
     ·rw [if_pos e16, (hl e16).2]
     ·rw [if_neg e16, if_pos (by omega), hv e16]
    refine ih (m - kk) (l := l ++ List.replicate kk v) (by omega) (hr.more ⟨hsym.2, by show kk - fromOf sym < 2 ^ widthOf sym; omega⟩ hadd) (fun e16 => ⟨by simp; omega, getD_last (by omega)⟩) (by simp; omega) H5 fun h' r' m' q1 q2 q3 q4 => ?_
    refine k h' r' m' (by omega) q2 ?_ q4
    rw [List.append_assoc, List.replicate_append_replicate, show kk + (m - kk - m') = m - m' by omega] at q3
    exact q3
   ·have e := of_decide_eq_false e
    refine z279.L1_X0 (k h r m (Nat.le_refl _) (by omega) ?_ H)
    simpa using hr
 intro q m r h Q hm hr hl hlN H k
 exact z279.door (go q m hm hr hl hlN H k)
theorem Pack_hs {l : List Nat} (T : Tb L) (g : Gv L a (nI l)) (hn : l.length = n) (h316 : n ≤ 316) (h15 : ∀ x ∈ l, x ≤ 15) (H : Hs h L)
  (k : ∀ h' r b cc, StpsOk n r l → Hs h' (own b r.length cc y73 2 (r.flatMap stpV) :: L) → Q (.tuple #[.slice b r.length cc, .int .i64 0]) h') : SpecH PP z278 [.slice a n c] h Q := by
 refine z277.door (y5 (decide_eq_false (by omega)) (lengths_hs g hn (by omega) h15 H ⟨_, rfl, z277.J1_of (y5 rfl ?_)⟩))
 dsimp only
 have H1 := H.new (t := y54) (cs := #[.slice none 0 0]) (xs := [.slice none 0 0]) rfl
 generalize Array.size h = o at H1 ⊢
 generalize Array.push h _ = h1 at H1 ⊢
 have HS : Hs h1 (Stps o [] :: L) := Stps_iff.2 ⟨none, 0, (H1.own_nil y73 2).m1⟩
 have TS : ∀ r, Tb (Stps o r :: L) := fun r => T.cons
 have go : ∀ (q i : Nat) {r : List Stp} {h : Heap}, n ≤ i + q → i ≤ n → StpsOk n r (l.take i) → Hs h (Stps o r :: L) → z277.L1 a n c ⟨o, 0, none⟩ (.func (.func z280) #[] #[P_ o]) (i : Nat) (z277.K2 Q) h := by
  intro q
  have fin : ∀ {r : List Stp} {h : Heap} {i : Nat}, n ≤ i → StpsOk n r (l.take i) → Hs h (Stps o r :: L) → z277.L1 a n c ⟨o, 0, none⟩ (.func (.func z280) #[] #[P_ o]) (i : Nat) (z277.K2 Q) h := by
   intro r h i hi hr H
   rw [List.take_of_length_le (by omega)] at hr
   obtain ⟨b, cc, H⟩ := Stps_iff.1 H
   refine z277.L1_of (y5 (decide_eq_false (by omega)) (z277.L1_X0 ⟨_, _, _, H.cell (off := 0) rfl rfl, k h r b cc hr H.tl⟩))
  induction q with
  | zero => intro i r h hq hi hr H; exact fin (by omega) hr H
  | succ q ih =>
   intro i r h hq hi hr H
   rcases Nat.lt_or_ge i n with hlt | hge
   ·refine z277.L1_of (y10 (decide_eq_true (by omega)) ?_)
    refine ixI y25 g.cons hn (by omega) H fun t ht => ⟨_, ht, ?_⟩
    have hv15 := h15 _ (y107 (l := l) (i := i) (by omega))
    generalize hv : l.getD i 0 = v at *
    have hle : (l.take i).length = i := by rw [List.length_take]; omega
    have tail : ∀ (j : Nat) {h : Heap}, i < j → j ≤ n → l.take j = l.take i ++ List.replicate (j - i) v → Hs h (Stps o r :: L) → z277.K4 (z277.K2 Q) (.exit 2) (z277.X2 a n c ⟨o, 0, none⟩ (.func (.func z280) #[] #[P_ o]) (j : Nat) (v : Nat) ((j - i : Nat) : Int)) h := by
     intro j h hij hjn hrun H
     have last : ∀ (m : Nat) {r' : List Stp} {h : Heap}, m ≤ j - i → StpsOk n r' (l.take i ++ List.replicate (j - i - m) v) → Hs h (Stps o r' :: L) → z277.J2 a n c ⟨o, 0, none⟩ (.func (.func z280) #[] #[P_ o]) (j : Nat) (v : Nat) (m : Nat) (z277.K2 Q) h := by
      intro m r' h hm hr' H
      refine z277.J2_of ?_
      have lp : ∀ (q' x : Nat) {r' : List Stp} {h : Heap}, x + q' = m → StpsOk n r' (l.take i ++ List.replicate (j - i - m + x) v) → Hs h (Stps o r' :: L) → z277.L3 a n c ⟨o, 0, none⟩ (.func (.func z280) #[] #[P_ o]) (j : Nat) (v : Nat) (m : Nat) (x : Nat) (z277.K7 (z277.K2 Q)) h := by
       intro q'
       induction q' with
       | zero =>
        intro x r' h hx hr' H
        obtain rfl : x = m := by omega
        refine z277.L3_of (y5 (decide_eq_false (by omega)) (z277.L3_X4 ?_))
        rw [show j - i - x + x = j - i by omega, ← hrun] at hr'
        exact ih j (by omega) hjn hr' H
       | succ q' ih2 =>
        intro x r' h hx hr' H
        have hrl := hr'.len
        rw [List.length_append, List.length_replicate, hle] at hrl
        refine z277.L3_of (y10 (decide_eq_true (by omega)) ?_)
        refine step_more (s := (v, 0)) (by omega) H fun h2 H2 => ?_
        rw [inc (by omega)]
        refine ih2 (x + 1) (by omega) (hr'.more (s := (v, 0)) ⟨by show v ≤ 18; omega, Nat.pow_pos (by decide)⟩ ?_) H2
        show add _ v 0 n = _
        unfold add
        rw [if_neg (by omega), if_neg (show ¬ v > 15 by omega), if_neg (by rw [List.length_append, List.length_replicate, hle]; omega), if_neg (by omega), if_neg (by omega), List.append_assoc, List.replicate_append_replicate]
        rw [show j - i - m + x + 1 = j - i - m + (x + 1) by omega]
      exact lp m 0 (by omega) (by simpa using hr') H
     refine z277.L2_X2 ?_
     refine (y20 _ _ _).2 ⟨fun e => ?_, fun e => ?_⟩
     ·have hv0 : v = 0 := by have := beq_iff_eq.1 e; omega
      refine y159 (by kernel_rfl) (repeat_hs (v := v) (top := 138) T (sym := 18) (by omega) (by decide) (by omega) (fun _ => hv0) (j - i) (j - i) (Nat.le_refl _) hr (fun h => by omega) (by omega) H fun h2 r2 m2 a1 a2 a3 H2 => ⟨_, rfl, ?_⟩)
      refine y159 (by kernel_rfl) (repeat_hs (v := v) (top := 10) T (sym := 17) (by omega) (by decide) (by omega) (fun _ => hv0) m2 m2 (Nat.le_refl _) a3 (fun h => by omega) (by simp; omega) H2 fun h3 r3 m3 b1 b2 b3 H3 => ⟨_, rfl, ?_⟩)
      rw [List.append_assoc, List.replicate_append_replicate, show j - i - m2 + (m2 - m3) = j - i - m3 by omega] at b3
      exact last m3 (by omega) b3 H3
     ·have hv0 : v ≠ 0 := by intro hh; rw [hh] at e; simp at e
      have hrl := hr.len
      rw [hle] at hrl
      refine step_more (s := (v, 0)) (by omega) H fun h2 H2 => ?_
      dsimp only
      rw [show IntKind.i64.wrap (((j - i : Nat) : Int) - 1) = ((j - i - 1 : Nat) : Int) by rw [wz (by omega) (by omega)]; omega]
      have hr2 : StpsOk n (r ++ [(v, 0)]) (l.take i ++ List.replicate 1 v) := hr.more (s := (v, 0)) ⟨by show v ≤ 18; omega, Nat.pow_pos (by decide)⟩ (by
       show add _ v 0 n = _
       unfold add
       rw [if_neg (by omega), if_neg (show ¬ v > 15 by omega), if_neg (by rw [hle]; omega), if_neg (by omega), if_neg (by omega)])
      refine y159 (by kernel_rfl) (repeat_hs (v := v) (top := 6) T (sym := 16) (by omega) (by decide) (by omega) (fun h => absurd rfl h) (j - i - 1) (j - i - 1) (Nat.le_refl _) hr2 (fun _ => ⟨by simp, getD_last (by omega)⟩) (by simp; omega) H2 fun h3 r3 m3 b1 b2 b3 H3 => ⟨_, rfl, ?_⟩)
      rw [List.append_assoc, List.replicate_append_replicate, show 1 + (j - i - 1 - m3) = j - i - m3 by omega] at b3
      exact last m3 (by omega) b3 H3
    have run : ∀ (q' j : Nat) {h : Heap}, n ≤ j + q' → i ≤ j → j ≤ n → (i = j → 0 < q') → l.take j = l.take i ++ List.replicate (j - i) v → Hs h (Stps o r :: L) → z277.L2 a n c ⟨o, 0, none⟩ (.func (.func z280) #[] #[P_ o]) (j : Nat) (v : Nat) ((j - i : Nat) : Int) (z277.K4 (z277.K2 Q)) h := by
     intro q'
     induction q' with
     | zero =>
      intro j h hq' hij hjn h0 hrun H
      exact z277.L2_of (y5 (decide_eq_false (by omega)) (tail j (by omega) hjn hrun H))
     | succ q' ih2 =>
      intro j h hq' hij hjn h0 hrun H
      refine z277.L2_of ((y20 _ _ _).2 ⟨fun e => ?_, fun e => ?_⟩)
      ·have e := of_decide_eq_true e
       refine ixI y25 g.cons hn (by omega) H fun t ht => ⟨_, ht, ?_⟩
       refine (y20 _ _ _).2 ⟨fun e2 => ?_, fun e2 => ?_⟩
       ·have e2 : l.getD j 0 = v := by have := beq_iff_eq.1 e2; omega
        dsimp only
        rw [inc (by omega), inc (by omega), show j - i + 1 = j + 1 - i by omega]
        refine ih2 (j + 1) (by omega) (by omega) (by omega) (fun h => by omega) ?_ H
        have hj2 : j < l.length := by omega
        rw [List.take_succ_eq_append_getElem hj2, hrun, List.append_assoc, show l[j] = v by rw [← e2]; simp [hj2], ← List.replicate_succ', show j - i + 1 = j + 1 - i by omega]
       ·have e2 : l.getD j 0 ≠ v := by intro hh; rw [hh] at e2; simp at e2
        rcases Nat.eq_or_lt_of_le hij with hh | hh
        ·subst hh; exact absurd hv e2
        ·exact tail j hh hjn hrun H
      ·have e := of_decide_eq_false e
       exact tail j (by omega) hjn hrun H
    have := run (n - i) i (by omega) (Nat.le_refl _) (by omega) (fun _ => by omega) (by simp) H
    rw [Nat.sub_self] at this
    exact this
   ·exact fin hge hr H
 exact go n 0 (by omega) (Nat.zero_le _) (by simpa using StpsOk.nil n) HS
end Go.Proofs.YtmkjmmpldepknaaDoor

set_option maxRecDepth 20000
namespace Go.Proofs.YtmkjmmpldepknaaDoor
open Go Go.HW Go.HW.Inf Go.HW.Pz Go.HW.Can
variable {h : Heap} {L : List Assn} {Q : Value → Heap → Prop} {a : OA} {n c : Nat}
abbrev Wb (p : Nat) (B : Bz) : Assn := Wr p B.x B.k
theorem y115 {p v n : Nat} {B : Bz} (H : Hs h (Wb p B :: L)) (hn : n ≤ 32) (hv : v < 2 ^ n) (hl : B.k + n ≤ 2 ^ 40) (kk : ∀ h', Hs h' (Wb p (B.cat ⟨v, n⟩) :: L) → Q (.int .i64 0) h') : SpecH PP z198 [P_ p, .int .u32 (v : Nat), .int .i64 (n : Nat)] h Q :=
 Put_hs H hn hv hl kk
theorem codesB_snoc (c : List Nat) (s : Nat) : ∀ r, codesB c (r ++ [s]) = (codesB c r).cat ⟨c.getD s 0, 3⟩
 | [] => by simp [codesB, Bz.cat_nil, Bz.nil_cat]
 | x :: r => by simp only [List.cons_append, codesB, codesB_snoc c s r, Bz.cat_assoc]
theorem codesB_k (c : List Nat) : ∀ r, (codesB c r).k = 3 * r.length
 | [] => rfl
 | x :: r => by simp only [codesB, Bz.cat, codesB_k c r, List.length_cons]; omega
theorem stepsB_snoc (c : List Nat) (s : Stp) : ∀ r, stepsB c (r ++ [s]) = (stepsB c r).cat (stepB c s)
 | [] => by simp [stepsB, Bz.cat_nil, Bz.nil_cat]
 | x :: r => by simp only [List.cons_append, stepsB, stepsB_snoc c s r, Bz.cat_assoc]
theorem stepsB_k {c : List Nat} (h7 : ∀ x ∈ c, x ≤ 7) : ∀ r : List Stp, (stepsB c r).k ≤ 14 * r.length
 | [] => by simp [stepsB, Bz.nil]
 | s :: r => by
  have h1 := stepsB_k h7 r
  have h2 := width_le s.1
  have h3 : c.getD s.1 0 ≤ 7 := by
   rcases Nat.lt_or_ge s.1 c.length with h | h
   ·exact h7 _ (y107 h)
   ·rw [List.getD_eq_getElem?_getD, List.getElem?_eq_none h]; simp
  simp only [stepsB, stepB, Bz.cat, cd, List.length_cons]
  omega
theorem order_all : ∀ i, i < 19 → ∃ j, j < 19 ∧ Inf.order.getD j 0 = i := by decide
theorem order_lt : ∀ j, j < 19 → Inf.order.getD j 0 < 19 := by decide
theorem order_take {m : Nat} (hm : m < 19) : Inf.order.take (m + 1) = Inf.order.take m ++ [Inf.order.getD m 0] := by
 have hl : m < Inf.order.length := hm
 rw [List.take_succ_eq_append_getElem hl]; simp [hl]
theorem Write_hs {p ln lc dn dc : Nat} {lit dist : List Nat} {la da : OA} {B : Bz} (T : Tb L) (gl : Gv L la (nI lit)) (gd : Gv L da (nI dist)) (hln : lit.length = ln) (hdn : dist.length = dn) (hl1 : 257 ≤ ln) (hl2 : ln ≤ 286) (hd1 : 1 ≤ dn) (hd2 : dn ≤ 30)
  (h15l : ∀ x ∈ lit, x ≤ 15) (h15d : ∀ x ∈ dist, x ≤ 15) (hla : la = none → ln = 0) (hda : da = none → dn = 0) (hB : B.k ≤ 2 ^ 30) (H : Hs h (Wb p B :: L))
  (k : ∀ h' b, b.wf → b.k ≤ 5000 → (∀ o, Tells lensP b (lit, dist) o o) → Hs h' (Wb p (B.cat b) :: L) → Q (.int .i64 0) h') :
  SpecH PP z284 [P_ p, .slice la ln lc, .slice da dn dc] h Q := by
 refine z283.door (y5 rfl (y5 (decide_eq_false (by omega)) (y5 (decide_eq_false (by omega)) (y5 (decide_eq_false (by omega)) (y5 (decide_eq_false (by omega)) ?_)))))
 refine lengths_hs gl.cons hln (by omega) h15l H ⟨_, rfl, y5 rfl (lengths_hs gd.cons hdn (by omega) h15d H ⟨_, rfl, z283.J1_of (y5 rfl ?_)⟩)⟩
 dsimp only
 have H1 := H.new (t := y14) (cs := #[.slice la ln lc, .slice da dn dc]) (xs := ([⟨la, ln, lc, lit⟩, ⟨da, dn, dc, dist⟩] : List Row).flatMap rowV) rfl
 refine Concat_hs (n := ln + dn) (k := 2) (rows := [⟨la, ln, lc, lit⟩, ⟨da, dn, dc, dist⟩]) rfl ?_ (by simp; omega) (by omega) (by omega) H1 fun h2 a2 c2 ha2 H2 => ⟨_, _, _, rfl, ?_⟩
 ·intro x hx
  simp only [List.mem_cons, List.not_mem_nil, or_false] at hx
  rcases hx with rfl | rfl
  ·exact ⟨gl.cons, hln, hla⟩
  ·exact ⟨gd.cons, hdn, hda⟩
 have H2 : Hs h2 (own a2 (ln + dn) c2 y18 1 (nI (lit ++ dist)) :: Wb p B :: L) := by simpa using H2
 have hall : ∀ x ∈ lit ++ dist, x ≤ 15 := fun x hx => by
  rcases List.mem_append.1 hx with hx | hx
  ·exact h15l x hx
  ·exact h15d x hx
 refine Pack_hs T.cons.cons (fun h H => H.rd) (by simp; omega) (by omega) hall H2 fun h3 r b3 c3 hr H3 => ⟨_, _, _, _, rfl, ?_⟩
 have hrl := hr.len
 rw [List.length_append] at hrl
 refine H3.make (n := 19) (c := 19) y25 rfl rfl (Nat.le_refl _) (by omega) (by omega) fun h4 b4 H4 => ⟨_, _, _, rfl, ?_⟩
 have H5 := H4.pt_all (n := 19) (by simp)
 have H6 : Hs h4 (own (some ⟨b4, 0, none⟩) 19 19 y18 1 (nI ((List.range 19).map fun y => ((r.take 0).map (·.1)).count y)) :: own b3 r.length c3 y73 2 (r.flatMap stpV) :: Wb p B :: L) := by
  have e : nI ((List.range 19).map fun y => ((r.take 0).map (·.1)).count y) = List.replicate 19 (.int .i64 0) := by rw [← nI_rep]; congr 1
  rw [e]
  exact (H5.m2.tl)
 clear H H1 H2 H3 H4 H5
 have hne : r ≠ [] := fun e => by
  have := hr.says; rw [e] at this
  simp only [adds, Option.some.injEq] at this
  have := congrArg List.length this; simp at this; omega
 have hs18 : ∀ s ∈ r, s.1 < 19 := fun s hs => by have := (hr.ok s hs).1; omega
 have one : ∀ (q i : Nat) {h : Heap}, i + q = r.length → Hs h (own (some ⟨b4, 0, none⟩) 19 19 y18 1 (nI ((List.range 19).map fun y => ((r.take i).map (·.1)).count y)) :: own b3 r.length c3 y73 2 (r.flatMap stpV) :: Wb p B :: L) →
   z283.L1 (some ⟨p, 0, none⟩) la ln lc da dn dc b3 r.length c3 (some ⟨b4, 0, none⟩) 19 19 b3 r.length c3 (r.length : Nat) (i : Nat) (z283.K2 Q) h := by
  intro q
  induction q with
  | succ q ih =>
   intro i h hi H
   have hi2 : i < r.length := by omega
   refine z283.L1_of (y10 (decide_eq_true (by omega)) ?_)
   refine idxf (φ := stpV) (l := r) (x := r[i]) y175 H.m1.rd stpV_len (by decide) (by omega) (by omega) (by rw [Int.toNat_natCast]; simp [hi2]) fun t ht => ⟨_, _, ht, ?_⟩
   dsimp only
   have H1 := H.new (t := y73) (cs := #[.int .i64 0, .int .i64 0]) (xs := [.int .i64 0, .int .i64 0]) rfl
   refine H1.wrs (vs := stpV r[i]) (fun h2 H2 => ⟨_, H2.cell (off := 0) rfl rfl, ?_⟩) rfl (stpV_one _)
   have hx := hs18 _ (List.getElem_mem hi2)
   have e2 : (List.range 19).map (fun y => ((r.take (i + 1)).map (·.1)).count y) = ((List.range 19).map fun y => ((r.take i).map (·.1)).count y).set r[i].1 (((r.take i).map (·.1)).count r[i].1 + 1) := by
    refine (List.ext_getElem (by simp) fun y g1 g2 => ?_).symm
    rw [List.getElem_set, List.getElem_map, List.getElem_map, List.getElem_range, List.take_succ_eq_append_getElem hi2, List.map_append, List.count_append, List.map_cons, List.map_nil, List.count_singleton]
    by_cases e : r[i].1 = y
    ·rw [if_pos e, if_pos (by simpa using e), e]
    ·rw [if_neg e, if_neg (by simpa using e)]; omega
   have hcl : ((r.take i).map (·.1)).count r[i].1 ≤ i := by
    refine Nat.le_trans List.count_le_length ?_
    rw [List.length_map, List.length_take]; omega
   have gd2 : ((List.range 19).map fun y => ((r.take i).map (·.1)).count y).getD r[i].1 0 = ((r.take i).map (·.1)).count r[i].1 := by simp [hx]
   generalize r[i].1 = x at *
   refine ixI (l := (List.range 19).map fun y => ((r.take i).map (·.1)).count y) y25 (fun h H => H.m1.rd) (by simp) hx H2 fun t ht => ⟨_, ht, ?_⟩
   rw [gd2, inc (by omega)]
   refine H2.m1.idx_set y25 (by omega) (by omega) rfl fun h3 H3 => ?_
   rw [Int.toNat_natCast, nI_set, ← e2] at H3
   rw [inc (by omega)]
   exact ih (i + 1) (by omega) H3.m1.tl
  | zero =>
   intro i h hi H
   obtain rfl : i = r.length := by omega
   refine z283.L1_of (y5 (decide_eq_false (by omega)) (z283.L1_X1 ?_))
   rw [List.take_length] at H
   generalize hcn : ((List.range 19).map fun y => (r.map (·.1)).count y) = counts at *
   have hcl : counts.length = 19 := by rw [← hcn]; simp
   have hcg : ∀ y, y < 19 → counts.getD y 0 = (r.map (·.1)).count y := fun y hy => by rw [← hcn]; simp [hy]
   have hids := ids_le counts
   refine Limit_hs (counts := counts) (m := 19) (most := 7) (fun h H => H.rd) hcl (by omega) (by omega) (by omega) (by omega) (fun x hx => ?_) (by rw [hcl] at hids; omega) H fun h1 b1 lims hL H1 => ⟨_, _, _, _, rfl, ?_⟩
   ·rw [← hcn] at hx
    obtain ⟨y, _, rfl⟩ := List.mem_map.1 hx
    refine Nat.le_trans List.count_le_length ?_
    rw [List.length_map]; omega
   have hl19 : lims.length = 19 := by rw [hL.len, hcl]
   have h7 := hL.le
   have hchk : chk lims = 0 := by
    refine hL.chk ?_
    obtain ⟨s, hs⟩ := List.exists_mem_of_ne_nil r hne
    refine ⟨s.1, ?_⟩
    rw [hcg _ (hs18 s hs)]
    have := List.count_pos_iff.2 (List.mem_map_of_mem (f := fun s : Stp => s.1) hs)
    omega
   have hsome : ∀ s ∈ r, lims.getD s.1 0 ≠ 0 := fun s hs h0 => by
    have := (hL.zero s.1).1 h0
    rw [hcg _ (hs18 s hs)] at this
    have := List.count_pos_iff.2 (List.mem_map_of_mem (f := fun s : Stp => s.1) hs)
    omega
   refine Codes_hs (l := lims) (fun h H => H.rd) hl19 (by omega) (by omega) (fun x hx => Nat.le_trans (h7 x hx) (by omega)) hchk H1 fun h2 b2 H2 => ⟨_, _, _, _, rfl, ?_⟩
   rw [hl19] at H2
   have H3 : Hs h2 (Wb p B :: own (some ⟨b1, 0, none⟩) 19 19 y18 1 (nI lims) :: own (some ⟨b2, 0, none⟩) 19 19 y150 1 (nU (codesL lims 19)) :: own b3 r.length c3 y73 2 (r.flatMap stpV) :: L) := by
    have := H2.m1.m2.tl
    have G := H2.sel 5 [4, 1, 0, 3] (by decide)
    exact G
   clear H H1 H2
   have two : ∀ (q m : Nat), m ≤ 4 + q → 4 ≤ m → m ≤ 19 → (∀ j, m ≤ j → j < 19 → lims.getD (Inf.order.getD j 0) 0 = 0) → z283.L2 (some ⟨p, 0, none⟩) la ln lc da dn dc b3 r.length c3 (some ⟨b1, 0, none⟩) 19 19 (some ⟨b2, 0, none⟩) 19 19 (m : Nat) (z283.K5 Q) h2 := by
    intro q
    have stop : ∀ m : Nat, 4 ≤ m → m ≤ 19 → (∀ j, m ≤ j → j < 19 → lims.getD (Inf.order.getD j 0) 0 = 0) → z283.K5 Q (.exit 3) (z283.X3 (some ⟨p, 0, none⟩) la ln lc da dn dc b3 r.length c3 (some ⟨b1, 0, none⟩) 19 19 (some ⟨b2, 0, none⟩) 19 19 (m : Nat)) h2 := by
     intro m hm4 hm19 hz
     have hz2 : ∀ i, i < 19 → i ∉ Inf.order.take m → lims.getD i 0 = 0 := by
      intro i hi hni
      obtain ⟨j, hj, e⟩ := order_all i hi
      rw [← e]
      refine hz j ?_ hj
      rcases Nat.lt_or_ge j m with hlt | hge
      ·exfalso; apply hni
       rw [← e]
       have hj2 : j < (Inf.order.take m).length := by rw [List.length_take]; exact Nat.lt_min.2 ⟨hlt, hj⟩
       have : Inf.order.getD j 0 = (Inf.order.take m)[j] := by
        rw [List.getElem_take]; simp [show j < Inf.order.length from hj]
       rw [this]; exact List.getElem_mem hj2
      ·exact hge
     have hsok : ∀ s ∈ r, StpOk lims s := fun s hs => ⟨by rw [hl19]; exact hs18 s hs, (hr.ok s hs).1, hsome s hs, (hr.ok s hs).2⟩
     have hfin := fun o => lens_tells (lit := lit) (dist := dist) (codes := lims) (many := m) (r := r) (by omega) (by omega) (by omega) (by omega) hm4 hm19 hl19 h7 hchk hz2 hsok (by rw [hln, hdn]; exact hr.says) (o := o)
     have hsk := stepsB_k h7 r
     refine z283.L2_X3 ?_
     dsimp only
     rw [show IntKind.i64.wrap ((ln : Int) - 257) = ((ln - 257 : Nat) : Int) by rw [wz (by omega) (by omega)]; omega, y124 (by omega)]
     refine y115 (n := 5) H3 (by omega) (by omega) (by omega) fun h3 H4 => ⟨_, rfl, ?_⟩
     rw [show IntKind.i64.wrap ((dn : Int) - 1) = ((dn - 1 : Nat) : Int) by rw [wz (by omega) (by omega)]; omega, y124 (by omega)]
     refine y115 (n := 5) H4 (by omega) (by omega) (by simp only [Bz.cat]; omega) fun h4 H5 => ⟨_, rfl, ?_⟩
     rw [show IntKind.i64.wrap ((m : Int) - 4) = ((m - 4 : Nat) : Int) by rw [wz (by omega) (by omega)]; omega, y124 (by omega)]
     refine y115 (n := 4) H5 (by omega) (by omega) (by simp only [Bz.cat]; omega) fun h5 H6 => ⟨_, rfl, ?_⟩
     refine slArrHi A_19_int hm19 ⟨_, _, _, rfl, ?_⟩
     generalize hB1 : ((B.cat ⟨ln - 257, 5⟩).cat ⟨dn - 1, 5⟩).cat ⟨m - 4, 4⟩ = B1 at H6
     have hB1k : B1.k = B.k + 14 := by rw [← hB1]; simp only [Bz.cat]
     have four : ∀ (q i : Nat) {h : Heap}, i + q = r.length → Hs h (Wb p ((B1.cat (codesB lims (Inf.order.take m))).cat (stepsB lims (r.take i))) :: own (some ⟨b1, 0, none⟩) 19 19 y18 1 (nI lims) :: own (some ⟨b2, 0, none⟩) 19 19 y150 1 (nU (codesL lims 19)) :: own b3 r.length c3 y73 2 (r.flatMap stpV) :: L) →
       z283.L4 (some ⟨p, 0, none⟩) (some ⟨b1, 0, none⟩) 19 19 (some ⟨b2, 0, none⟩) 19 19 b3 r.length c3 (r.length : Nat) (i : Nat) (z283.K9 Q) h := by
      intro q
      induction q with
      | zero =>
       intro i h hi H
       obtain rfl : i = r.length := by omega
       rw [List.take_length] at H
       refine z283.L4_of (y5 (decide_eq_false (by omega)) (z283.L4_X7 ?_))
       have eB : (B1.cat (codesB lims (Inf.order.take m))).cat (stepsB lims r) = B.cat (lensB lit.length dist.length m lims r) := by
        rw [← hB1, hln, hdn]; unfold lensB; simp only [Bz.cat_assoc]
       rw [eB] at H
       refine k h _ (hfin []).1 ?_ (fun o => (hfin o).2) (H.m1.tl.m1.tl.m1.tl)
       unfold lensB
       have := codesB_k lims (Inf.order.take m)
       have hlo : (Inf.order.take m).length ≤ 19 := by rw [List.length_take]; exact Nat.min_le_right _ _
       simp only [Bz.cat]
       omega
      | succ q ih =>
       intro i h hi H
       have hi2 : i < r.length := by omega
       have hck := codesB_k lims (Inf.order.take m)
       have hlo : (Inf.order.take m).length ≤ 19 := by rw [List.length_take]; exact Nat.min_le_right _ _
       have hsk2 := stepsB_k h7 (r.take i)
       have hti : (r.take i).length ≤ 316 := by rw [List.length_take]; omega
       have hsn : stepsB lims (r.take (i + 1)) = ((stepsB lims (r.take i)).cat (cd lims r[i].1)).cat ⟨r[i].2, widthOf r[i].1⟩ := by
        rw [List.take_succ_eq_append_getElem hi2, stepsB_snoc, stepB, ← Bz.cat_assoc]
       refine z283.L4_of (y10 (decide_eq_true (by omega)) ?_)
       refine idxf (φ := stpV) (l := r) (x := r[i]) y175 H.m3.rd stpV_len (by decide) (by omega) (by omega) (by rw [Int.toNat_natCast]; simp [hi2]) fun t ht => ⟨_, _, ht, ?_⟩
       dsimp only
       have H1 := H.new (t := y73) (cs := #[.int .i64 0, .int .i64 0]) (xs := [.int .i64 0, .int .i64 0]) rfl
       refine H1.wrs (vs := stpV r[i]) (fun h2 H2 => ⟨_, H2.cell (off := 0) rfl rfl, ?_⟩) rfl (stpV_one _)
       have hx := hs18 _ (List.getElem_mem hi2)
       have hx2 := (hr.ok _ (List.getElem_mem hi2)).2
       have hx3 := hsome _ (List.getElem_mem hi2)
       have hw7 := width_le r[i].1
       generalize hs1 : r[i].1 = x at *
       have hs2 : r[i].2 = r[i].2 := rfl
       generalize hs3 : r[i].2 = y at *
       have hpw : 2 ^ widthOf x ≤ 2 ^ 7 := Nat.pow_le_pow_right (by decide) hw7
       have hgl : lims.getD x 0 ≤ 7 := h7 _ (y107 (by omega))
       have hcode := cd_wf lims x
       have hcg2 : (codesL lims 19).getD x 0 = (cd lims x).x := by have := y161 (l := lims) (i := x) (by omega) hx3; rwa [hl19] at this
       have hcx : (cd lims x).x < 2 ^ 7 := Nat.lt_of_lt_of_le hcode (Nat.pow_le_pow_right (by decide) hgl)
       refine idx y152 (v := .int .u32 ((cd lims x).x : Nat)) H2.m3.rd (by omega) (by omega) (by rw [Int.toNat_natCast, ← hcg2]; exact nU_get (by simp [codesL]; omega)) fun t ht => ⟨_, ht, ?_⟩
       refine ⟨((x : Nat) : Int), H2.cell (off := 0) (by simp [stpV, hs1]) rfl, ?_⟩
       refine ixI (l := lims) y25 (fun h H => H.m2.rd) hl19 hx H2 fun t ht => ⟨_, ht, ?_⟩
       have HW := H2.m1
       refine y115 (n := lims.getD x 0) (v := (cd lims x).x) HW (by omega) hcode (by simp only [Bz.cat]; omega) fun h3 H3 => ⟨_, rfl, ?_⟩
       rw [y47]
       refine ⟨((y : Nat) : Int), H3.m1.cell (off := 1) (by simp [stpV, hs3]) rfl, ?_⟩
       rw [y124 (by omega)]
       refine ⟨((x : Nat) : Int), H3.m1.cell (off := 0) (by simp [stpV, hs1]) rfl, ?_⟩
       refine tbl (L := _) T.cons.cons.cons.cons.cons.wide rfl hx H3 fun t ht => ⟨_, ht _ H3, ?_⟩
       rw [wide_at hx]
       refine y115 (n := widthOf x) (v := y) H3 (by omega) hx2 (by simp only [Bz.cat]; omega) fun h4 H4 => ⟨_, rfl, ?_⟩
       rw [inc (by omega)]
       refine ih (i + 1) (by omega) ?_
       rw [hsn]
       have H5 := H4.m1.tl
       simp only [Bz.cat_assoc] at H5 ⊢
       exact H5
     have three : ∀ (q i : Nat) {h : Heap}, i + q = m → Hs h (Wb p (B1.cat (codesB lims (Inf.order.take i))) :: own (some ⟨b1, 0, none⟩) 19 19 y18 1 (nI lims) :: own (some ⟨b2, 0, none⟩) 19 19 y150 1 (nU (codesL lims 19)) :: own b3 r.length c3 y73 2 (r.flatMap stpV) :: L) →
       z283.L3 (some ⟨p, 0, none⟩) b3 r.length c3 (some ⟨b1, 0, none⟩) 19 19 (some ⟨b2, 0, none⟩) 19 19 (some ⟨G_lens_order, 0, none⟩) m 19 (m : Nat) (i : Nat) (z283.K7 Q) h := by
      intro q
      induction q with
      | zero =>
       intro i h hi H
       obtain rfl : i = m := by omega
       refine z283.L3_of (y5 (decide_eq_false (by omega)) (z283.L3_X5 (four r.length 0 (by omega) ?_)))
       rw [List.take_zero]
       show Hs h (Wb p (Bz.cat _ .nil) :: _)
       rw [Bz.cat_nil]; exact H
      | succ q ih =>
       intro i h hi H
       have hck := codesB_k lims (Inf.order.take i)
       have hlo : (Inf.order.take i).length ≤ 19 := by rw [List.length_take]; exact Nat.min_le_right _ _
       refine z283.L3_of (y10 (decide_eq_true (by omega)) ?_)
       have ho := order_lt i (by omega)
       have hgl : lims.getD (Inf.order.getD i 0) 0 ≤ 7 := h7 _ (y107 (by omega))
       refine idx y25 (v := .int .i64 (Inf.order.getD i 0 : Nat)) (T.cons.cons.cons.cons.order _ H) (by omega) (by omega) (by rw [Int.toNat_natCast]; exact nI_get (show i < 19 by omega)) fun t ht => ⟨_, ht, ?_⟩
       have htk := order_take (m := i) (by omega)
       generalize hoo : Inf.order.getD i 0 = o at *
       refine ixI (l := lims) y25 (fun h H => H.m1.rd) hl19 ho H fun t ht => ⟨_, ht, ?_⟩
       dsimp only
       rw [y124 (by omega)]
       refine y115 (n := 3) (v := lims.getD o 0) H (by omega) (by omega) (by simp only [Bz.cat]; omega) fun h3 H3 => ⟨_, rfl, ?_⟩
       rw [inc (by omega)]
       refine ih (i + 1) (by omega) ?_
       rw [htk, codesB_snoc, ← Bz.cat_assoc]; exact H3
     refine three m 0 (by omega) ?_
     rw [List.take_zero]
     show Hs h5 (Wb p (Bz.cat _ .nil) :: _)
     rw [Bz.cat_nil]; exact H6
    induction q with
    | zero =>
     intro m hq hm4 hm19 hz
     exact z283.L2_of (y5 (decide_eq_false (by omega)) (stop m hm4 hm19 hz))
    | succ q ih =>
     intro m hq hm4 hm19 hz
     refine z283.L2_of ((y20 _ _ _).2 ⟨fun e => ?_, fun e => stop m hm4 hm19 hz⟩)
     have e := of_decide_eq_true e
     dsimp only
     rw [show IntKind.i64.wrap ((m : Int) - 1) = ((m - 1 : Nat) : Int) by rw [wz (by omega) (by omega)]; omega]
     refine tbl T.cons.cons.cons.cons.order rfl (show m - 1 < 19 by omega) H3 fun t ht => ⟨_, ht _ H3, ?_⟩
     have ho := order_lt (m - 1) (by omega)
     refine ixI (l := lims) y25 (fun h H => H.m1.rd) hl19 ho H3 fun t ht => ⟨_, ht, ?_⟩
     refine (y20 _ _ _).2 ⟨fun e2 => ?_, fun e2 => stop m hm4 hm19 hz⟩
     have e2 : lims.getD (Inf.order.getD (m - 1) 0) 0 = 0 := by have := beq_iff_eq.1 e2; omega
     refine ih (m - 1) (by omega) (by omega) (by omega) fun j hj1 hj2 => ?_
     rcases Nat.eq_or_lt_of_le hj1 with hh | hh
     ·rw [← hh]; exact e2
     ·exact hz j (by omega) hj2
   exact two 15 19 (by omega) (by omega) (by omega) (fun j h1 h2 => by omega)
 exact one r.length 0 (by omega) H6
end Go.Proofs.YtmkjmmpldepknaaDoor

set_option maxRecDepth 20000
namespace Go.Proofs.YtmkjmmpldepknaaDoor
open Go Go.HW Go.HW.Inf Go.HW.Pz Go.HW.Can
variable {h : Heap} {L : List Assn} {Q : Value → Heap → Prop} {a : OA} {n c : Nat}
theorem TakeC_hs {b1 b2 r at_ n : Nat} {bs : List Nat} {e : Int} (hn : n ≤ 32) (H : Hs h (Rr r bs at_ :: pt b1 y34 [P_ r] :: pt b2 y44 [.int .i64 e] :: L))
  (kok : at_ + n ≤ 8 * bs.length → ∀ h', Hs h' (Rr r bs (at_ + n) :: pt b1 y34 [P_ r] :: pt b2 y44 [.int .i64 e] :: L) → Q (.int .i64 ((val bs / 2 ^ at_ % 2 ^ n : Nat) : Int)) h')
  (kend : 8 * bs.length < at_ + n → ∀ h', Hs h' (Rr r bs at_ :: pt b1 y34 [P_ r] :: pt b2 y44 [.int .i64 (if e = 0 then 10 else e)] :: L) → Q (.int .i64 0) h') :
  SpecH PP z294 [.int .i64 (n : Nat), P_ b1, P_ b2] h Q := by
 refine z293.door ⟨_, H.m1.cell (off := 0) rfl rfl, ?_⟩
 rcases Nat.lt_or_ge (8 * bs.length) (at_ + n) with hlt | hge
 ·obtain ⟨_, _, _, ⟨hn', _, _, hat⟩, _⟩ := Rr_iff.1 H
  refine Take_end H hn (by omega) ⟨_, _, rfl, _, H.m2.cell (off := 0) rfl rfl, ?_⟩
  have fin : ∀ {h' : Heap} {x : Int}, (if e = 0 then 10 else e) = x → Hs h' (Rr r bs at_ :: pt b1 y34 [P_ r] :: pt b2 y44 [.int .i64 x] :: L) → z293.J1 0 Q h' := fun hx H' => z293.J1_of (kend hlt _ (by rw [hx]; exact H'))
  refine (y20 _ _ _).2 ⟨fun e1 => ?_, fun e1 => ?_⟩
  ·have e1 : e = 0 := beq_iff_eq.1 e1
   refine H.m2.sto (off := 0) (by simp) fun h2 H2 => fin (x := 10) (by rw [if_pos e1]) ?_
   exact H2.r2
  ·have e1 : e ≠ 0 := fun hh => by rw [hh] at e1; simp at e1
   exact fin (by rw [if_neg e1]) H
 ·refine Take_hs H hn hge fun h1 H1 => ⟨_, _, rfl, _, H1.m2.cell (off := 0) rfl rfl, ?_⟩
  have hv : val bs / 2 ^ at_ % 2 ^ n < 2 ^ 32 := Nat.lt_of_lt_of_le (Nat.mod_lt _ (Nat.pow_pos (by decide))) (Nat.pow_le_pow_right (by decide) hn)
  have fin : ∀ {h' : Heap}, Hs h' (Rr r bs (at_ + n) :: pt b1 y34 [P_ r] :: pt b2 y44 [.int .i64 e] :: L) → z293.J1 ((val bs / 2 ^ at_ % 2 ^ n : Nat) : Int) Q h' := by
   intro h' H'
   refine z293.J1_of ?_
   dsimp only
   rw [wz (by omega) (by omega)]
   exact kok hge h' H'
  refine (y20 _ _ _).2 ⟨fun e1 => ?_, fun e1 => fin H1⟩
  have e1 : e = 0 := beq_iff_eq.1 e1
  refine H1.m2.sto (off := 0) (by simp) fun h2 H2 => fin ?_
  rw [e1]; exact H2.r2
def P2 (a b : Nat) (codes : List Nat) : Pz (List Nat × List Nat) := if chk codes ≠ 0 then .err 52 else (rdLens codes (257 + a + (1 + b)) (257 + a + (1 + b)) []).bind fun l => .ret (l.take (257 + a), l.drop (257 + a))
def P1 (a b c : Nat) : Pz (List Nat × List Nat) := if 257 + a > 286 ∨ 1 + b > 30 then .err 52 else (rdCodes (Inf.order.take (4 + c)) (List.replicate 19 0)).bind (P2 a b)
theorem lensP_def : lensP = .take 5 fun a => .take 5 fun b => .take 4 fun c => P1 a b c := rfl
theorem run_take {α : Type} {V Lb lim n p : Nat} {k : Nat → Pz α} {o : List Nat} (h : p + n ≤ Lb) : run V Lb lim (.take n k) p o = run V Lb lim (k (V / 2 ^ p % 2 ^ n)) (p + n) o := by simp only [run]; rw [if_pos h]
theorem run_end {α : Type} {V Lb lim n p : Nat} {k : Nat → Pz α} {o : List Nat} (h : Lb < p + n) : run V Lb lim (.take n k) p o = .bad 55 o := by simp only [run]; rw [if_neg (by omega)]
theorem read_hs {r at_ : Nat} {bs : List Nat} (T : Tb L) (H : Hs h (Rr r bs at_ :: L))
  (kok : ∀ (lit dist : List Nat) (p : Nat), (∀ o lim, run (val bs) (8 * bs.length) lim lensP at_ o = .ok (lit, dist) p o) → 257 ≤ lit.length → lit.length ≤ 286 → 1 ≤ dist.length → dist.length ≤ 30 → (∀ x ∈ lit, x ≤ 15) → (∀ x ∈ dist, x ≤ 15) →
   ∀ h' la lc da dc, Hs h' (Rr r bs p :: own la lit.length lc y18 1 (nI lit) :: own da dist.length dc y18 1 (nI dist) :: L) → Q (.tuple #[.slice la lit.length lc, .slice da dist.length dc, .int .i64 0]) h')
  (kbad : ∀ (e e' : Int) (p : Nat), (∀ o lim, run (val bs) (8 * bs.length) lim lensP at_ o = .bad e o) → (e = 55 ∧ e' = 10 ∨ e = 52 ∧ e' ≠ 0 ∧ e' ≠ 10) → at_ ≤ p → ∀ h', Hs h' (Rr r bs p :: L) → Q (.tuple #[.slice none 0 0, .slice none 0 0, .int .i64 e']) h') :
  SpecH PP z292 [P_ r] h Q := by
 refine z291.door ?_
 dsimp only
 have H1 := H.new (t := y34) (cs := #[P_ r]) (xs := [P_ r]) rfl
 generalize Array.size h = b1 at H1 ⊢
 generalize Array.push h _ = h1 at H1 ⊢
 have H2 := H1.new (t := y44) (cs := #[.int .i64 0]) (xs := [.int .i64 0]) rfl
 generalize Array.size h1 = b2 at H2 ⊢
 generalize Array.push h1 _ = h2 at H2 ⊢
 have H3 : Hs h2 (Rr r bs at_ :: pt b1 y34 [P_ r] :: pt b2 y44 [.int .i64 0] :: L) := H2.m1.m2
 clear H H1 H2
 have hcl : ∀ {h : Heap} {Q : VP} {n : Nat}, SpecH PP z294 [.int .i64 (n : Nat), P_ b1, P_ b2] h Q → callV PP (.func (.func z294) #[] #[P_ b1, P_ b2]) [.int .i64 (n : Nat)] Q h := fun k => y159 (by kernel_rfl) k
 have tell : ∀ {h : Heap} {e e' : Int} {p : Nat}, (∀ o lim, run (val bs) (8 * bs.length) lim lensP at_ o = .bad e o) → (e = 55 ∧ e' = 10 ∨ e = 52 ∧ e' ≠ 0 ∧ e' ≠ 10) → at_ ≤ p → Hs h (Rr r bs p :: pt b1 y34 [P_ r] :: pt b2 y44 [.int .i64 e'] :: L) →
   ∃ (e4_1 : Int), cellH h ⟨b2, 0, none⟩ = some (.int .i64 e4_1) ∧ Q (.tuple #[.slice none 0 0, .slice none 0 0, .int .i64 e4_1]) h := fun hr he hp H => ⟨_, H.m2.cell (off := 0) rfl rfl, kbad _ _ _ hr he hp _ (H.m1.tl.m1.tl)⟩
 have rest : ∀ {h : Heap} {p a b c : Nat} {e : Int}, a < 32 → b < 32 → c < 16 → at_ ≤ p → ((e = 0 ∧ ∀ o lim, run (val bs) (8 * bs.length) lim lensP at_ o = run (val bs) (8 * bs.length) lim (P1 a b c) p o) ∨ (e = 10 ∧ ∀ o lim, run (val bs) (8 * bs.length) lim lensP at_ o = .bad 55 o)) →
   Hs h (Rr r bs p :: pt b1 y34 [P_ r] :: pt b2 y44 [.int .i64 e] :: L) →
   ∃ (t29 : Int), cellH h ⟨b2, 0, none⟩ = some (.int .i64 t29) ∧ br (t29 != 0) (∃ (t31 : Int), cellH h ⟨b2, 0, none⟩ = some (.int .i64 t31) ∧ wr ⟨b2, 0, none⟩ (.int .i64 t31) (fun h6 => ∃ (e4_1 : Int), cellH h6 ⟨b2, 0, none⟩ = some (.int .i64 e4_1) ∧ Q (.tuple #[.slice none 0 0, .slice none 0 0, .int .i64 e4_1]) h6) h) (
    br (decide (((257 + a : Nat) : Int) > 286)) (wr ⟨b2, 0, none⟩ (.int .i64 40) (fun h1 => ∃ (e4_1 : Int), cellH h1 ⟨b2, 0, none⟩ = some (.int .i64 e4_1) ∧ Q (.tuple #[.slice none 0 0, .slice none 0 0, .int .i64 e4_1]) h1) h) (
     br (decide (((1 + b : Nat) : Int) > 30)) (wr ⟨b2, 0, none⟩ (.int .i64 40) (fun h1 => ∃ (e4_1 : Int), cellH h1 ⟨b2, 0, none⟩ = some (.int .i64 e4_1) ∧ Q (.tuple #[.slice none 0 0, .slice none 0 0, .int .i64 e4_1]) h1) h) (
      hwp PP (Instr.makeSlice y14 (.int .i64 19) (.int .i64 19)) (fun v_3 h7 => ∃ (t39 : OA) (t39n t39c : Nat), v_3 = (.slice t39 t39n t39c) ∧
       hwp PP (Instr.sliceAt y98 (.pointer (some ⟨G_lens_order, 0, none⟩)) none (some (.int .i64 ((4 + c : Nat) : Int))) none) (fun v_4 h8 => ∃ (t41 : OA) (t41n t41c : Nat), v_4 = (.slice t41 t41n t41c) ∧
        z291.L1 ⟨b1, 0, none⟩ ⟨b2, 0, none⟩ (.func (.func z294) #[] #[P_ b1, P_ b2]) ((257 + a : Nat) : Int) ((1 + b : Nat) : Int) t39 t39n t39c t41 t41n t41c (t41n : Int) 0 (z291.K1 Q) h8) h7) h))) := by
  intro h p a b c e ha hb hc hp hrun H
  refine ⟨_, H.m2.cell (off := 0) rfl rfl, ?_⟩
  rcases hrun with ⟨rfl, hrun⟩ | ⟨rfl, hrun⟩
  rotate_left
  ·refine y10 rfl ⟨_, H.m2.cell (off := 0) rfl rfl, H.m2.sto (off := 0) (by simp) fun h3 H3 => tell hrun (Or.inl ⟨rfl, rfl⟩) hp H3.r2⟩
  refine y5 rfl ?_
  by_cases h1 : 257 + a > 286
  ·refine y10 (decide_eq_true (by omega)) (H.m2.sto (off := 0) (by simp) fun h3 H3 => tell (e := 52) (e' := 40) (fun o lim => ?_) (Or.inr ⟨rfl, by decide, by decide⟩) hp H3.r2)
   rw [hrun]; unfold P1; rw [if_pos (Or.inl h1)]; rfl
  refine y5 (decide_eq_false (by omega)) ?_
  by_cases h2 : 1 + b > 30
  ·refine y10 (decide_eq_true (by omega)) (H.m2.sto (off := 0) (by simp) fun h3 H3 => tell (e := 52) (e' := 40) (fun o lim => ?_) (Or.inr ⟨rfl, by decide, by decide⟩) hp H3.r2)
   rw [hrun]; unfold P1; rw [if_pos (Or.inr h2)]; rfl
  refine y5 (decide_eq_false (by omega)) ?_
  have hrun : ∀ o lim, run (val bs) (8 * bs.length) lim lensP at_ o = run (val bs) (8 * bs.length) lim ((rdCodes (Inf.order.take (4 + c)) (List.replicate 19 0)).bind (P2 a b)) p o := fun o lim => by
   rw [hrun]; unfold P1; rw [if_neg (by omega)]
  refine H.make (n := 19) (c := 19) y25 rfl rfl (Nat.le_refl _) (by omega) (by omega) fun h3 b3 H3 => ⟨_, _, _, rfl, ?_⟩
  refine slArrHi A_19_int (by omega) ⟨_, _, _, rfl, ?_⟩
  have H4 := H3.pt_all (n := 19) (by simp)
  rw [← nI_rep] at H4
  have codesL : ∀ (q i : Nat) {h : Heap} {p : Nat} {e : Int} {acc : List Nat}, i + q = 4 + c → acc.length = 19 → (∀ x ∈ acc, x ≤ 7) → at_ ≤ p → ((e = 0 ∧ ∀ o lim, run (val bs) (8 * bs.length) lim lensP at_ o = run (val bs) (8 * bs.length) lim ((rdCodes ((Inf.order.take (4 + c)).drop i) acc).bind (P2 a b)) p o) ∨ (e = 10 ∧ ∀ o lim, run (val bs) (8 * bs.length) lim lensP at_ o = .bad 55 o)) →
    Hs h (own (some ⟨b3, 0, none⟩) 19 19 y18 1 (nI acc) :: Rr r bs p :: pt b1 y34 [P_ r] :: pt b2 y44 [.int .i64 e] :: L) →
    z291.L1 ⟨b1, 0, none⟩ ⟨b2, 0, none⟩ (.func (.func z294) #[] #[P_ b1, P_ b2]) ((257 + a : Nat) : Int) ((1 + b : Nat) : Int) (some ⟨b3, 0, none⟩) 19 19 (some ⟨G_lens_order, 0, none⟩) (4 + c) 19 ((4 + c : Nat) : Int) (i : Nat) (z291.K1 Q) h := by
   intro q
   induction q with
   | succ q ih =>
    intro i h p e acc hi hacc h7 hp hrun H
    refine z291.L1_of (y10 (decide_eq_true (by omega)) ?_)
    have hi19 : i < 19 := by omega
    have ho := order_lt i hi19
    refine idx y25 (v := .int .i64 (Inf.order.getD i 0 : Nat)) (T.cons.cons.cons.cons.order _ H) (by omega) (by omega) (by rw [Int.toNat_natCast]; exact nI_get hi19) fun t ht => ⟨_, ht, ?_⟩
    have hdrop : (Inf.order.take (4 + c)).drop i = Inf.order.getD i 0 :: (Inf.order.take (4 + c)).drop (i + 1) := by
     have hl : i < (Inf.order.take (4 + c)).length := by rw [List.length_take]; exact Nat.lt_min.2 ⟨by omega, hi19⟩
     rw [List.drop_eq_getElem_cons hl, List.getElem_take]
     simp [show i < Inf.order.length from hi19]
    generalize hoo : Inf.order.getD i 0 = o at *
    have set7 : ∀ v, v ≤ 7 → ∀ x ∈ acc.set o v, x ≤ 7 := fun v hv x hx => by
     rcases List.mem_or_eq_of_mem_set hx with h | h
     ·exact h7 x h
     ·omega
    have nx : ∀ {h : Heap} {p : Nat} {e : Int} {v : Nat}, v ≤ 7 → at_ ≤ p → ((e = 0 ∧ ∀ o' lim, run (val bs) (8 * bs.length) lim lensP at_ o' = run (val bs) (8 * bs.length) lim ((rdCodes ((Inf.order.take (4 + c)).drop (i + 1)) (acc.set o v)).bind (P2 a b)) p o') ∨ (e = 10 ∧ ∀ o lim, run (val bs) (8 * bs.length) lim lensP at_ o = .bad 55 o)) →
      Hs h (Rr r bs p :: pt b1 y34 [P_ r] :: pt b2 y44 [.int .i64 e] :: own (some ⟨b3, 0, none⟩) 19 19 y18 1 (nI acc) :: L) →
      hwp PP (Instr.indexAt y14 (.slice (some ⟨b3, 0, none⟩) 19 19) (.int .i64 (o : Nat))) (fun v_2 h3 => ∃ (t51 : Addr), v_2 = (.pointer (some t51)) ∧ wr t51 (.int .i64 (v : Nat)) (fun h4 => z291.L1 ⟨b1, 0, none⟩ ⟨b2, 0, none⟩ (.func (.func z294) #[] #[P_ b1, P_ b2]) ((257 + a : Nat) : Int) ((1 + b : Nat) : Int) (some ⟨b3, 0, none⟩) 19 19 (some ⟨G_lens_order, 0, none⟩) (4 + c) 19 ((4 + c : Nat) : Int) (IntKind.i64.wrap ((i : Int) + 1)) (z291.K1 Q) h4) h3) h := by
     intro h p e v hv hp hrun H
     refine H.m3.idx_set y25 (by omega) (by omega) rfl fun h3 H3 => ?_
     rw [Int.toNat_natCast, nI_set] at H3
     rw [inc (by omega)]
     exact ih (i + 1) (by omega) (by simp [hacc]) (set7 v hv) hp hrun H3
    have H' : Hs h (Rr r bs p :: pt b1 y34 [P_ r] :: pt b2 y44 [.int .i64 e] :: own (some ⟨b3, 0, none⟩) 19 19 y18 1 (nI acc) :: L) := H.r3
    refine hcl (n := 3) (TakeC_hs (by omega) H' (fun hfit h5 H5 => ⟨_, rfl, ?_⟩) (fun hend h5 H5 => ⟨_, rfl, ?_⟩))
    ·refine nx (e := e) (p := p + 3) (by have := Nat.mod_lt (val bs / 2 ^ p) (show 0 < 2 ^ 3 by decide); omega) (by omega) ?_ H5
     rcases hrun with ⟨e0, hrun⟩ | hrun
     ·refine Or.inl ⟨e0, fun o' lim => ?_⟩
      rw [hrun, hdrop]; simp only [rdCodes, Pz.bind]
      rw [run_take hfit]
     ·exact Or.inr hrun
    ·refine nx (v := 0) (by omega) hp (Or.inr ?_) H5
     rcases hrun with ⟨e0, hrun⟩ | ⟨e0, hrun⟩
     ·refine ⟨by rw [if_pos e0], fun o' lim => ?_⟩
      rw [hrun, hdrop]; simp only [rdCodes, Pz.bind]
      rw [run_end hend]
     ·exact ⟨by rw [if_neg (by rw [e0]; decide)]; exact e0, hrun⟩
   | zero =>
    intro i h p e acc hi hacc h7 hp hrun H
    refine z291.L1_of (y5 (decide_eq_false (by omega)) (z291.L1_X1 ?_))
    refine ⟨_, H.m3.cell (off := 0) rfl rfl, ?_⟩
    rcases hrun with ⟨rfl, hrun⟩ | ⟨rfl, hrun⟩
    rotate_left
    ·refine y10 rfl ⟨_, H.m3.cell (off := 0) rfl rfl, H.m3.sto (off := 0) (by simp) fun h3 H3 => tell hrun (Or.inl ⟨rfl, rfl⟩) hp ?_⟩
     exact (H3.m1.tl).r2
    refine y5 rfl ?_
    have hrun : ∀ o lim, run (val bs) (8 * bs.length) lim lensP at_ o = run (val bs) (8 * bs.length) lim (P2 a b acc) p o := fun o lim => by
     rw [hrun, List.drop_of_length_le (by rw [List.length_take]; have : Inf.order.length = 19 := rfl; omega)]; rfl
    by_cases hck : chk acc = 0
    rotate_left
    ·refine New_bad (l := acc) (fun h H => H.rd) hacc (by omega) (by omega) (fun x hx => Nat.le_trans (h7 x hx) (by omega)) hck H ⟨_, _, rfl, ?_⟩
     have hcv : chk acc = 30 ∨ chk acc = 31 := by
      unfold chk at hck ⊢; split
      ·exact Or.inl rfl
      ·split
       ·exact Or.inr rfl
       ·rename_i q1 q2; rw [if_neg q1, if_neg q2] at hck; exact absurd rfl hck
     refine H.m3.sto (off := 0) (by simp) fun h3 H3 => ⟨_, H3.cell (off := 0) rfl rfl, y10 (bne_iff_ne.2 (by omega)) ⟨_, H3.cell (off := 0) rfl rfl, H3.sto (off := 0) (by simp) fun h4 H4 => tell (e := 52) (fun o lim => ?_) (Or.inr ⟨rfl, by omega, by omega⟩) hp ((H4.m1.tl).r2)⟩⟩
     rw [hrun]; unfold P2; rw [if_pos hck]; rfl
    have hkr := chk_kr hck
    have h15 : ∀ x ∈ acc, x ≤ 15 := fun x hx => Nat.le_trans (h7 x hx) (by omega)
    refine New_hs (l := acc) (fun h H => H.rd) hacc (by omega) (by omega) h15 hck H fun h5 d H5 => ⟨_, _, rfl, ?_⟩
    have hrun : ∀ o lim, run (val bs) (8 * bs.length) lim lensP at_ o = run (val bs) (8 * bs.length) lim ((rdLens acc (257 + a + (1 + b)) (257 + a + (1 + b)) []).bind fun l => .ret (l.take (257 + a), l.drop (257 + a))) p o := fun o lim => by
     rw [hrun]; unfold P2; rw [if_neg (by simp [hck])]
    have H6 : Hs h5 (pt b2 y44 [.int .i64 0] :: Rr r bs p :: Dec d acc :: pt b1 y34 [P_ r] :: L) := H5.sel 5 [4, 2, 0, 3] (by decide)
    refine H6.sto (off := 0) (by simp) fun h6 H7 => ⟨_, H7.cell (off := 0) rfl rfl, y5 rfl ?_⟩
    have H8 := (H7.m1.m2)
    have lensL : ∀ (f : Nat) {h : Heap} {p : Nat} {l : List Nat} {la : OA} {ln lc : Nat}, l.length = ln → 257 + a + (1 + b) ≤ ln + f → ln ≤ 257 + a + (1 + b) → (∀ x ∈ l, x ≤ 15) → at_ ≤ p → (∀ o lim, run (val bs) (8 * bs.length) lim lensP at_ o = run (val bs) (8 * bs.length) lim ((rdLens acc (257 + a + (1 + b)) f l).bind fun l => .ret (l.take (257 + a), l.drop (257 + a))) p o) →
      Hs h (own la ln lc y18 1 (nI l) :: Rr r bs p :: Dec d acc :: pt b1 y34 [P_ r] :: pt b2 y44 [.int .i64 0] :: L) →
      z291.L2 ⟨b1, 0, none⟩ ⟨b2, 0, none⟩ ((257 + a : Nat) : Int) ((1 + b : Nat) : Int) (some ⟨d, 0, none⟩) la ln lc (z291.K2 Q) h := by
     intro f
     have ew : IntKind.i64.wrap (((257 + a : Nat) : Int) + ((1 + b : Nat) : Int)) = ((257 + a + (1 + b) : Nat) : Int) := by rw [wz (by omega) (by omega)]; omega
     have fin : ∀ {h : Heap} {p : Nat} {l : List Nat} {la : OA} {ln lc : Nat}, l.length = ln → ln = 257 + a + (1 + b) → (∀ x ∈ l, x ≤ 15) → (∀ o lim, run (val bs) (8 * bs.length) lim lensP at_ o = .ok (l.take (257 + a), l.drop (257 + a)) p o) →
       Hs h (own la ln lc y18 1 (nI l) :: Rr r bs p :: Dec d acc :: pt b1 y34 [P_ r] :: pt b2 y44 [.int .i64 0] :: L) → z291.L2 ⟨b1, 0, none⟩ ⟨b2, 0, none⟩ ((257 + a : Nat) : Int) ((1 + b : Nat) : Int) (some ⟨d, 0, none⟩) la ln lc (z291.K2 Q) h := by
      intro h p l la ln lc hl hln hx hrun H
      refine z291.L2_of ?_
      dsimp only
      rw [ew]
      refine y5 (decide_eq_false (by omega)) (z291.L2_X3 ?_)
      have hcap := H.own_le
      have hz := fun e : la = none => by subst e; exact H.Own.none_zero rfl
      have gl : Gv (own la ln lc y18 1 (nI l) :: Rr r bs p :: Dec d acc :: pt b1 y34 [P_ r] :: pt b2 y44 [.int .i64 0] :: L) la (nI l) := fun h H => H.rd
      have hln2 : la ≠ none := fun e => by have := hz e; omega
      refine cutS (i := 0) (j := 257 + a) y25 gl (by rw [y28]; omega) hcap (fun e => absurd e hln2) (Nat.zero_le _) (by omega) rfl rfl fun a1 c1 g1 n1 m1 z1 => ⟨_, _, _, rfl, ?_⟩
      have e1 : (((nI l).drop (0 * 1)).take ((257 + a - 0) * 1)) = nI (l.take (257 + a)) := by unfold nI; simp [List.map_take]
      rw [e1] at g1
      rw [Nat.sub_zero]
      refine CloneI_hs g1 (by rw [List.length_take]; omega) (fun e => by have := n1 e; omega) (by omega) H fun h3 a3 c3 _ H3 => ⟨_, _, _, rfl, ?_⟩
      refine cutS (i := 257 + a) (j := ln) y25 (Gv.cons (A := own a3 (257 + a) c3 y18 1 (nI (l.take (257 + a)))) gl) (by rw [y28]; omega) hcap (fun e => absurd e hln2) (by omega) (Nat.le_refl _) rfl rfl fun a4 c4 g4 n4 m4 z4 => ⟨_, _, _, rfl, ?_⟩
      have e4 : (((nI l).drop ((257 + a) * 1)).take ((ln - (257 + a)) * 1)) = nI (l.drop (257 + a)) := by
       unfold nI; rw [Nat.mul_one, Nat.mul_one, ← List.map_drop, ← List.map_take, List.take_of_length_le (by simp; omega)]
      rw [e4] at g4
      refine CloneI_hs g4 (by rw [List.length_drop]; omega) (fun e => by have := n4 e; omega) (by omega) H3 fun h5 a5 c5 _ H5 => ⟨_, _, _, rfl, ?_⟩
      have H6 : Hs h5 (pt b2 y44 [.int .i64 0] :: Rr r bs p :: own a3 (257 + a) c3 y18 1 (nI (l.take (257 + a))) :: own a5 (ln - (257 + a)) c5 y18 1 (nI (l.drop (257 + a))) :: L) := H5.sel 7 [6, 3, 1, 0] (by decide)
      refine H6.sto (off := 0) (by simp) fun h7 H7 => ⟨_, H7.cell (off := 0) rfl rfl, ?_⟩
      have t1 : (l.take (257 + a)).length = 257 + a := by rw [List.length_take]; omega
      have t2 : (l.drop (257 + a)).length = ln - (257 + a) := by rw [List.length_drop, hl]
      have := kok (l.take (257 + a)) (l.drop (257 + a)) p hrun (by omega) (by omega) (by omega) (by omega) (fun x hx' => hx x (List.mem_of_mem_take hx')) (fun x hx' => hx x (List.mem_of_mem_drop hx')) h7 a3 c3 a5 c5
      rw [t1, t2] at this
      exact this H7.tl
     induction f with
     | zero =>
      intro h p l la ln lc hl hf hln hx hp hrun H
      exact fin hl (by omega) hx (fun o lim => by rw [hrun]; rfl) H
     | succ f ih2 =>
      intro h p l la ln lc hl hf hln hx hp hrun H
      rcases Nat.eq_or_lt_of_le hln with heq | hlt
      ·exact fin hl heq hx (fun o lim => by rw [hrun]; simp only [rdLens]; rw [if_pos (by omega)]; rfl) H
      have hrun2 : ∀ o lim, run (val bs) (8 * bs.length) lim lensP at_ o = run (val bs) (8 * bs.length) lim (((next acc 52).bind fun s => .take (widthOf s) fun x => match add l s x (257 + a + (1 + b)) with | none => .err 52 | some l' => rdLens acc (257 + a + (1 + b)) f l').bind fun l => .ret (l.take (257 + a), l.drop (257 + a))) p o := fun o lim => by
       rw [hrun]; simp only [rdLens]; rw [if_neg (by omega)]; rfl
      have stop : ∀ {h : Heap} {e e' : Int} {p : Nat}, (∀ o lim, run (val bs) (8 * bs.length) lim lensP at_ o = .bad e o) → (e = 55 ∧ e' = 10 ∨ e = 52 ∧ e' ≠ 0 ∧ e' ≠ 10) → at_ ≤ p → Hs h (own la ln lc y18 1 (nI l) :: Rr r bs p :: Dec d acc :: pt b1 y34 [P_ r] :: pt b2 y44 [.int .i64 0] :: L) →
        wr ⟨b2, 0, none⟩ (.int .i64 e') (fun h2 => z291.K2 Q .ret (z291.Xret none 0 0 none 0 0 ⟨b2, 0, none⟩) h2) h := by
       intro h e e' p hr he hp H
       refine H.m4.sto (off := 0) (by simp) fun h3 H3 => z291.L2_Xret (tell hr he hp ?_)
       exact H3.sel 5 [2, 4, 0] (by decide)
      refine z291.L2_of ?_
      dsimp only
      rw [ew]
      refine y10 (decide_eq_true (by omega)) ⟨_, H.m3.cell (off := 0) rfl rfl, ?_⟩
      have H' : Hs h (Rr r bs p :: Dec d acc :: own la ln lc y18 1 (nI l) :: pt b1 y34 [P_ r] :: pt b2 y44 [.int .i64 0] :: L) := H.r2
      refine Next_hs (bad := 52) (by omega) h15 hkr (by decide) H' (fun s p2 hs h3 H3 => ⟨_, _, rfl, y5 rfl ?_⟩) (fun e he hee h3 H3 => ⟨_, _, rfl, y10 (by split <;> rfl) ?_⟩)
      rotate_left
      ·refine stop (e := e) (fun o lim => ?_) (by rcases hee with rfl | rfl <;> simp) hp H3.m2
       rw [hrun2, run_bind, run_bind, he]
      obtain ⟨hs1, hs2, _⟩ := next_sym (hs [] 0)
      have hrun3 : ∀ o lim, run (val bs) (8 * bs.length) lim lensP at_ o = run (val bs) (8 * bs.length) lim ((Pz.take (widthOf s) fun x => match add l s x (257 + a + (1 + b)) with | none => .err 52 | some l' => rdLens acc (257 + a + (1 + b)) f l').bind fun l => .ret (l.take (257 + a), l.drop (257 + a))) p2 o := fun o lim => by
       rw [hrun2, run_bind, run_bind, hs]
       simp only
       rw [run_bind]
      refine ⟨_, (H3.m3).cell (off := 0) rfl rfl, ?_⟩
      refine tbl T.cons.cons.cons.cons.cons.wide rfl (by omega) H3 fun t ht => ⟨_, ht _ H3, ?_⟩
      rw [wide_at (by omega)]
      have hw7 := width_le s
      rcases Nat.lt_or_ge (8 * bs.length) (p2 + widthOf s) with hend | hfit
      ·obtain ⟨_, _, _, ⟨_, _, _, hat⟩, _⟩ := Rr_iff.1 H3
       refine Take_end H3 (by omega) (by omega) ⟨_, _, rfl, y10 rfl ?_⟩
       refine stop (e := 55) (e' := 10) (fun o lim => ?_) (Or.inl ⟨rfl, rfl⟩) (show at_ ≤ p2 by omega) H3.m2
       rw [hrun3]; simp only [Pz.bind]; rw [run_end hend]
      ·refine Take_hs H3 (by omega) hfit fun h4 H4 => ⟨_, _, rfl, y5 rfl ?_⟩
       have hxl : val bs / 2 ^ p2 % 2 ^ widthOf s < 2 ^ widthOf s := Nat.mod_lt _ (Nat.pow_pos (by decide))
       have hrun4 : ∀ o lim, run (val bs) (8 * bs.length) lim lensP at_ o = run (val bs) (8 * bs.length) lim ((match add l s (val bs / 2 ^ p2 % 2 ^ widthOf s) (257 + a + (1 + b)) with | none => .err 52 | some l' => rdLens acc (257 + a + (1 + b)) f l' : Pz (List Nat)).bind fun l => .ret (l.take (257 + a), l.drop (257 + a))) (p2 + widthOf s) o := fun o lim => by
        rw [hrun3]; simp only [Pz.bind]; rw [run_take hfit]
       generalize val bs / 2 ^ p2 % 2 ^ widthOf s = x at *
       have hp7 : 2 ^ widthOf s ≤ 2 ^ 7 := Nat.pow_le_pow_right (by decide) hw7
       rw [wz (by omega) (by omega)]
       refine add_hs T.cons.cons.cons.cons (by omega) hxl (by omega) hl (by omega) H4.m2 (fun l' hadd h5 a5 c5 H5 => ⟨_, _, _, _, rfl, y5 rfl ?_⟩) (fun hadd h5 H5 => ⟨_, _, _, _, rfl, y10 rfl ?_⟩)
       ·have hl' := add_len (by omega) hadd
        refine ih2 rfl (by omega) hl'.2 (add_le hadd hx) (show at_ ≤ p2 + widthOf s by omega) (fun o lim => ?_) H5
        rw [hrun4, hadd]
       ·refine stop (e := 52) (e' := 41) (fun o lim => ?_) (Or.inr ⟨rfl, by decide, by decide⟩) (show at_ ≤ p2 + widthOf s by omega) H5
        rw [hrun4, hadd]; rfl
    refine lensL (257 + a + (1 + b)) (l := []) (la := none) (ln := 0) (lc := 0) rfl (by omega) (Nat.zero_le _) (fun x hx => by cases hx) hp hrun ?_
    have H9 : Hs h6 (Rr r bs p :: Dec d acc :: pt b1 y34 [P_ r] :: pt b2 y44 [.int .i64 0] :: L) := H7.sel 4 [1, 2, 3, 0] (by decide)
    exact H9.own_nil y18 1
  refine codesL (4 + c) 0 (by omega) (by simp) (fun x hx => by rw [(List.mem_replicate.1 hx).2]; omega) hp (Or.inl ⟨rfl, fun o lim => by rw [hrun, List.drop_zero]⟩) H4
 have w257 : ∀ v : Nat, v < 32 → IntKind.i64.wrap (257 + (v : Int)) = ((257 + v : Nat) : Int) := fun v hv => by rw [wz (by omega) (by omega)]; omega
 have w1' : ∀ v : Nat, v < 32 → IntKind.i64.wrap (1 + (v : Int)) = ((1 + v : Nat) : Int) := fun v hv => by rw [wz (by omega) (by omega)]; omega
 have w4 : ∀ v : Nat, v < 16 → IntKind.i64.wrap (4 + (v : Int)) = ((4 + v : Nat) : Int) := fun v hv => by rw [wz (by omega) (by omega)]; omega
 have m5 : ∀ p, val bs / 2 ^ p % 2 ^ 5 < 32 := fun p => Nat.mod_lt _ (by decide)
 have m4 : ∀ p, val bs / 2 ^ p % 2 ^ 4 < 16 := fun p => Nat.mod_lt _ (by decide)
 have third : ∀ {h : Heap} {p a b : Nat} {e : Int}, a < 32 → b < 32 → at_ ≤ p → ((e = 0 ∧ ∀ o lim, run (val bs) (8 * bs.length) lim lensP at_ o = run (val bs) (8 * bs.length) lim (.take 4 fun c => P1 a b c) p o) ∨ (e = 10 ∧ ∀ o lim, run (val bs) (8 * bs.length) lim lensP at_ o = .bad 55 o)) → Hs h (Rr r bs p :: pt b1 y34 [P_ r] :: pt b2 y44 [.int .i64 e] :: L) →
   ∀ {Q' : VP}, (∀ (c : Nat) (h' : Heap) (e' : Int) (p' : Nat), c < 16 → at_ ≤ p' → ((e' = 0 ∧ ∀ o lim, run (val bs) (8 * bs.length) lim lensP at_ o = run (val bs) (8 * bs.length) lim (P1 a b c) p' o) ∨ (e' = 10 ∧ ∀ o lim, run (val bs) (8 * bs.length) lim lensP at_ o = .bad 55 o)) → Hs h' (Rr r bs p' :: pt b1 y34 [P_ r] :: pt b2 y44 [.int .i64 e'] :: L) → Q' (.int .i64 (c : Nat)) h') →
   callV PP (.func (.func z294) #[] #[P_ b1, P_ b2]) [.int .i64 4] Q' h := by
  intro h p a b e ha hb hp hrun H Q' k
  refine hcl (n := 4) (TakeC_hs (by omega) H (fun hfit h5 H5 => k _ h5 e (p + 4) (m4 p) (by omega) ?_ H5) (fun hend h5 H5 => k 0 h5 _ p (by omega) hp (Or.inr ?_) H5))
  ·rcases hrun with ⟨e0, hrun⟩ | hrun
   ·exact Or.inl ⟨e0, fun o lim => by rw [hrun, run_take hfit]⟩
   ·exact Or.inr hrun
  ·rcases hrun with ⟨e0, hrun⟩ | ⟨e0, hrun⟩
   ·exact ⟨by rw [if_pos e0], fun o lim => by rw [hrun, run_end hend]⟩
   ·exact ⟨by rw [if_neg (by rw [e0]; decide)]; exact e0, hrun⟩
 have second : ∀ {h : Heap} {p a : Nat} {e : Int}, a < 32 → at_ ≤ p → ((e = 0 ∧ ∀ o lim, run (val bs) (8 * bs.length) lim lensP at_ o = run (val bs) (8 * bs.length) lim (.take 5 fun b => .take 4 fun c => P1 a b c) p o) ∨ (e = 10 ∧ ∀ o lim, run (val bs) (8 * bs.length) lim lensP at_ o = .bad 55 o)) → Hs h (Rr r bs p :: pt b1 y34 [P_ r] :: pt b2 y44 [.int .i64 e] :: L) →
   ∀ {Q' : VP}, (∀ (b : Nat) (h' : Heap) (e' : Int) (p' : Nat), b < 32 → at_ ≤ p' → ((e' = 0 ∧ ∀ o lim, run (val bs) (8 * bs.length) lim lensP at_ o = run (val bs) (8 * bs.length) lim (.take 4 fun c => P1 a b c) p' o) ∨ (e' = 10 ∧ ∀ o lim, run (val bs) (8 * bs.length) lim lensP at_ o = .bad 55 o)) → Hs h' (Rr r bs p' :: pt b1 y34 [P_ r] :: pt b2 y44 [.int .i64 e'] :: L) → Q' (.int .i64 (b : Nat)) h') →
   callV PP (.func (.func z294) #[] #[P_ b1, P_ b2]) [.int .i64 5] Q' h := by
  intro h p a e ha hp hrun H Q' k
  refine hcl (n := 5) (TakeC_hs (by omega) H (fun hfit h5 H5 => k _ h5 e (p + 5) (m5 p) (by omega) ?_ H5) (fun hend h5 H5 => k 0 h5 _ p (by omega) hp (Or.inr ?_) H5))
  ·rcases hrun with ⟨e0, hrun⟩ | hrun
   ·exact Or.inl ⟨e0, fun o lim => by rw [hrun, run_take hfit]⟩
   ·exact Or.inr hrun
  ·rcases hrun with ⟨e0, hrun⟩ | ⟨e0, hrun⟩
   ·exact ⟨by rw [if_pos e0], fun o lim => by rw [hrun, run_end hend]⟩
   ·exact ⟨by rw [if_neg (by rw [e0]; decide)]; exact e0, hrun⟩
 refine hcl (n := 5) (TakeC_hs (by omega) H3 (fun hfit h5 H5 => ⟨_, rfl, ?_⟩) (fun hend h5 H5 => ⟨_, rfl, ?_⟩))
 ·rw [w257 _ (m5 at_)]
  refine second (m5 at_) (show at_ ≤ at_ + 5 by omega) (Or.inl ⟨rfl, fun o lim => by rw [lensP_def, run_take hfit]⟩) H5 fun b h' e' p' hb hp' hrun' H' => ⟨_, rfl, ?_⟩
  rw [w1' _ hb]
  refine third (m5 at_) hb hp' hrun' H' fun c h'' e'' p'' hc hp'' hrun'' H'' => ⟨_, rfl, ?_⟩
  rw [w4 _ hc]
  exact rest (m5 at_) hb hc hp'' hrun'' H''
 ·rw [show IntKind.i64.wrap (257 + 0) = ((257 + 0 : Nat) : Int) from rfl]
  refine second (a := 0) (by omega) (Nat.le_refl _) (Or.inr ⟨rfl, fun o lim => by rw [lensP_def, run_end hend]⟩) H5 fun b h' e' p' hb hp' hrun' H' => ⟨_, rfl, ?_⟩
  rw [w1' _ hb]
  refine third (a := 0) (by omega) hb hp' hrun' H' fun c h'' e'' p'' hc hp'' hrun'' H'' => ⟨_, rfl, ?_⟩
  rw [w4 _ hc]
  exact rest (a := 0) (by omega) hb hc hp'' hrun'' H''
end Go.Proofs.YtmkjmmpldepknaaDoor

set_option maxRecDepth 20000
namespace Go.Proofs.YtmkjmmpldepknaaDoor
open Go Go.HW Go.HW.Inf Go.HW.Pz Go.HW.Can
variable {h : Heap} {L : List Assn} {Q : Value → Heap → Prop} {a : OA} {n c : Nat}
theorem LRead_hs {r at_ : Nat} {bs : List Nat} (T : Tb L) (H : Hs h (Rr r bs at_ :: L))
  (kok : ∀ (lit dist : List Nat) (p : Nat), (∀ o lim, run (val bs) (8 * bs.length) lim lensP at_ o = .ok (lit, dist) p o) → 257 ≤ lit.length → lit.length ≤ 286 → 1 ≤ dist.length → dist.length ≤ 30 → (∀ x ∈ lit, x ≤ 15) → (∀ x ∈ dist, x ≤ 15) →
   ∀ h' la lc da dc, Hs h' (Rr r bs p :: own la lit.length lc y18 1 (nI lit) :: own da dist.length dc y18 1 (nI dist) :: L) → Q (.tuple #[.slice la lit.length lc, .slice da dist.length dc, .int .i64 0]) h')
  (kbad : ∀ (e e' : Int), (∀ o lim, run (val bs) (8 * bs.length) lim lensP at_ o = .bad e o) → (e = 55 ∧ e' = 10 ∨ e = 52 ∧ e' ≠ 0 ∧ e' ≠ 10) → ∀ h', Hs h' (Rr r bs at_ :: L) → Q (.tuple #[.slice none 0 0, .slice none 0 0, .int .i64 e']) h') :
  SpecH PP z282 [P_ r] h Q := by
 refine z281.door (y5 rfl (Gone_hs H ⟨_, rfl, ?_⟩))
 obtain ⟨_, _, _, ⟨_, _, hmax, hat⟩, _⟩ := Rr_iff.1 H
 refine read_hs T H (fun lit dist p hr h1 h2 h3 h4 h5 h6 h' la lc da dc H' => ⟨_, _, _, _, _, _, _, rfl, y5 rfl (z281.J1_of (kok lit dist p hr h1 h2 h3 h4 h5 h6 h' la lc da dc H'))⟩) (fun e e' p hr he hp h' H' => ⟨_, _, _, _, _, _, _, rfl, ?_⟩)
 have he' : e' ≠ 0 := by rcases he with ⟨_, rfl⟩ | ⟨_, h, _⟩ <;> first | decide | exact h
 obtain ⟨_, _, _, ⟨_, _, _, hat2⟩, _⟩ := Rr_iff.1 H'
 refine y10 (bne_iff_ne.2 he') (Gone_hs H' ⟨_, rfl, ?_⟩)
 dsimp only
 rw [show IntKind.i64.wrap ((p : Int) - (at_ : Int)) = ((p - at_ : Nat) : Int) by rw [wz (by omega) (by omega)]; omega]
 refine Back_hs H' (by omega) fun h2 H2 => ⟨_, rfl, z281.J1_of ?_⟩
 rw [show p - (p - at_) = at_ by omega] at H2
 exact kbad e e' hr he h2 H2
def Rg (g r : Nat) (bs : List Nat) (at_ : Nat) (out : List Nat) (most : Nat) : Assn := fun m => ∃ a c, ((∀ x ∈ out, x < 256) ∧ out.length ≤ most ∧ most ≤ 16384) ∧ Sp [pt g y82 [P_ r, .slice a out.length c, .int .i64 (most : Int)], own a out.length c y15 1 (nV out), Rr r bs at_] m
theorem y101 {g r at_ most : Nat} {bs out : List Nat} : Hs h (Rg g r bs at_ out most :: L) ↔ ∃ a c, ((∀ x ∈ out, x < 256) ∧ out.length ≤ most ∧ most ≤ 16384) ∧ Hs h (pt g y82 [P_ r, .slice a out.length c, .int .i64 (most : Int)] :: own a out.length c y15 1 (nV out) :: Rr r bs at_ :: L) := by
 unfold Rg; simp only [Hs.ex, Hs.and, Hs.app, List.cons_append, List.nil_append]
def Told (Q : VP) (g r : Nat) (bs : List Nat) (most : Nat) (L : List Assn) : Rz Unit → Prop
 | .ok _ p o => ∀ h', Hs h' (Rg g r bs p o most :: L) → Q (.int .i64 0) h'
 | .bad e o => e ≠ 0 → ∀ h' p, Hs h' (Rg g r bs p o most :: L) → Q (.int .i64 e) h'
theorem Told.drop {Q : VP} {A : Assn} {g r most : Nat} {bs : List Nat} : ∀ {z : Rz Unit}, Told Q g r bs most L z → Told Q g r bs most (A :: L) z
 | .ok _ _ _, k => fun h' H => k h' (Hs.tl (Hs.m1 H))
 | .bad _ _, k => fun he h' p H => k he h' p (Hs.tl (Hs.m1 H))
section
variable {g r at_ most : Nat} {bs out : List Nat}
theorem end_pure (e o : Int) : PureAt PP z254 [.int .i64 e, .int .i64 o] (.int .i64 (if e = 0 then 0 else if e = 10 then 55 else o)) := by
 intro h
 refine z253.door ((y20 _ _ _).2 ⟨fun h1 => ?_, fun h1 => (y20 _ _ _).2 ⟨fun h2 => ?_, fun h2 => ?_⟩⟩)
 ·rw [if_pos (beq_iff_eq.1 h1)]; exact ⟨rfl, rfl⟩
 ·have h1 : e ≠ 0 := fun hh => by rw [hh] at h1; simp at h1
  rw [if_neg h1, if_pos (beq_iff_eq.1 h2)]; exact ⟨rfl, rfl⟩
 ·have h1 : e ≠ 0 := fun hh => by rw [hh] at h1; simp at h1
  have h2 : e ≠ 10 := fun hh => by rw [hh] at h2; simp at h2
  rw [if_neg h1, if_neg h2]; exact ⟨rfl, rfl⟩
theorem take_hs {n : Nat} (hn : n ≤ 32) (H : Hs h (Rg g r bs at_ out most :: L))
  (kok : at_ + n ≤ 8 * bs.length → ∀ h', Hs h' (Rg g r bs (at_ + n) out most :: L) → Q (.tuple #[.int .i64 ((val bs / 2 ^ at_ % 2 ^ n : Nat) : Int), .int .i64 0]) h')
  (kend : 8 * bs.length < at_ + n → ∀ h', Hs h' (Rg g r bs at_ out most :: L) → Q (.tuple #[.int .i64 0, .int .i64 55]) h') : SpecH PP z272 [P_ g, .int .i64 (n : Nat)] h Q := by
 obtain ⟨a, c, hf, H1⟩ := y101.1 H
 refine z271.door ?_
 dsimp only [nilc]
 refine ⟨_, H1.cell (off := 0) rfl rfl, ?_⟩
 rcases Nat.lt_or_ge (8 * bs.length) (at_ + n) with hlt | hge
 ·obtain ⟨_, _, _, ⟨_, _, _, hat⟩, _⟩ := Rr_iff.1 H1.m2
  refine Take_end H1.m2 hn (by omega) ⟨_, _, rfl, _, end_pure _ _, _, rfl, ?_⟩
  exact kend hlt _ H
 ·refine Take_hs H1.m2 hn hge fun h2 H2 => ⟨_, _, rfl, _, end_pure _ _, _, rfl, ?_⟩
  have hv : val bs / 2 ^ at_ % 2 ^ n < 2 ^ 32 := Nat.lt_of_lt_of_le (Nat.mod_lt _ (Nat.pow_pos (by decide))) (Nat.pow_le_pow_right (by decide) hn)
  rw [wz (by omega) (by omega)]
  exact kok hge h2 (y101.2 ⟨a, c, hf, H2.r2⟩)
theorem lay_hs {x : Nat} (hx : x < 256) (H : Hs h (Rg g r bs at_ out most :: L)) (k1 : out.length < most → ∀ h', Hs h' (Rg g r bs at_ (out ++ [x]) most :: L) → Q (.int .i64 0) h') (k0 : ¬ out.length < most → Q (.int .i64 56) h) :
  SpecH PP z266 [P_ g, .int .u8 (x : Nat)] h Q := by
 obtain ⟨a, c, ⟨f1, f2, f3⟩, H1⟩ := y101.1 H
 refine z265.door ?_
 dsimp only [nilc]
 simp only [y47, Nat.zero_add]
 refine ⟨_, _, _, H1.cell (off := 1) rfl rfl, _, H1.cell (off := 2) rfl rfl, ?_⟩
 refine (y20 _ _ _).2 ⟨fun e => ?_, fun e => ?_⟩
 ·have e := of_decide_eq_true e
  exact k0 (by omega)
 ·have e := of_decide_eq_false e
  refine ⟨_, _, _, H1.cell (off := 1) rfl rfl, ?_⟩
  refine H1.m1.app_vals y33 (m := 1) (ys := [.int .u8 (x : Nat)]) rfl rfl (by simp [oneC]) (fun h3 a3 c3 H3 => ⟨_, _, _, rfl, ?_⟩) (by omega) (by omega)
  refine H3.m1.sto (off := 1) (by simp) fun h4 H4 => k1 (by omega) h4 (y101.2 ⟨a3, c3, ⟨fun y hy => ?_, by simp; omega, f3⟩, ?_⟩)
  ·rcases List.mem_append.1 hy with hy | hy
   ·exact f1 y hy
   ·rw [List.mem_singleton.1 hy]; exact hx
  ·rw [nV_app, List.length_append, List.length_singleton]
   exact H4
theorem stored_hs (H : Hs h (Rg g r bs at_ out most :: L)) (k : Told Q g r bs most L (run (val bs) (8 * bs.length) most storedP at_ out)) : SpecH PP z268 [P_ g] h Q := by
 obtain ⟨a, c, hf, H1⟩ := y101.1 H
 refine z267.door ?_
 dsimp only [nilc]
 refine ⟨_, H1.cell (off := 0) rfl rfl, ?_⟩
 refine RAlign_hs H1.m2 fun h2 H2 => ⟨_, rfl, ?_⟩
 have H3 : Hs h2 (Rg g r bs ((at_ + 7) / 8 * 8) out most :: L) := y101.2 ⟨a, c, hf, H2.r2⟩
 unfold storedP at k
 simp only [run] at k
 generalize (at_ + 7) / 8 * 8 = p at *
 refine take_hs (n := 16) (by omega) H3 (fun hfit h3 H4 => ⟨_, _, rfl, y5 rfl ?_⟩) (fun hend h3 H4 => ⟨_, _, rfl, y10 rfl ?_⟩)
 rotate_left
 ·rw [if_neg (by omega)] at k; exact k (by decide) h3 p H4
 rw [if_pos hfit] at k
 have hv1 : val bs / 2 ^ p % 2 ^ 16 < 65536 := Nat.mod_lt _ (by decide)
 generalize val bs / 2 ^ p % 2 ^ 16 = v1 at *
 refine take_hs (n := 16) (by omega) H4 (fun hfit2 h4 H5 => ⟨_, _, rfl, y5 rfl ?_⟩) (fun hend h4 H5 => ⟨_, _, rfl, y10 rfl ?_⟩)
 rotate_left
 ·rw [if_neg (by omega)] at k; exact k (by decide) h4 _ H5
 rw [if_pos hfit2] at k
 have hv2 : val bs / 2 ^ (p + 16) % 2 ^ 16 < 65536 := Nat.mod_lt _ (by decide)
 generalize val bs / 2 ^ (p + 16) % 2 ^ 16 = v2 at *
 have hx : bXor .i64 (v2 : Int) 65535 = ((65535 - v2 : Nat) : Int) := by
  rw [show (65535 : Int) = ((65535 : Nat) : Int) from rfl, xor_i64 (by omega) (by omega)]
  congr 1
  apply Nat.eq_of_testBit_eq
  intro i
  rw [Nat.testBit_xor, show 65535 - v2 = 2 ^ 16 - (v2 + 1) by omega, Nat.testBit_two_pow_sub_succ (by omega), show (65535 : Nat) = 2 ^ 16 - 1 from rfl, Nat.testBit_two_pow_sub_one]
  by_cases hi : i < 16
  ·simp [hi]
  ·have : v2.testBit i = false := Nat.testBit_lt_two_pow (Nat.lt_of_lt_of_le (show v2 < 2 ^ 16 by omega) (Nat.pow_le_pow_right (by decide) (by omega)))
   simp [hi, this]
 rw [hx]
 refine (y20 _ _ _).2 ⟨fun e => ?_, fun e => ?_⟩
 ·have e := bne_iff_ne.1 e
  rw [if_pos (by omega)] at k
  exact k (by decide) h4 _ H5
 ·have e := bne_eq_false_iff_eq.1 e
  rw [if_neg (by omega)] at k
  have go : ∀ (q i : Nat) {h : Heap} {p : Nat} {out : List Nat}, i + q = v1 → Told Q g r bs most L (run (val bs) (8 * bs.length) most (layP q) p out) → Hs h (Rg g r bs p out most :: L) → z267.L1 (some ⟨g, 0, none⟩) (v1 : Nat) (i : Nat) (z267.K1 Q) h := by
   intro q
   induction q with
   | zero =>
    intro i h p out hi k H
    exact z267.L1_of (y5 (decide_eq_false (by omega)) (z267.L1_X0 (k h H)))
   | succ q ih =>
    intro i h p out hi k H
    refine z267.L1_of (y10 (decide_eq_true (by omega)) ?_)
    simp only [layP, run] at k
    refine take_hs (n := 8) (by omega) H (fun hfit h3 H4 => ⟨_, _, rfl, y5 rfl ?_⟩) (fun hend h3 H4 => ⟨_, _, rfl, y10 rfl (z267.L1_Xret ?_)⟩)
    rotate_left
    ·rw [if_neg (by omega)] at k; exact k (by decide) h3 p H4
    rw [if_pos hfit] at k
    have hv : val bs / 2 ^ p % 2 ^ 8 < 256 := Nat.mod_lt _ (by decide)
    generalize val bs / 2 ^ p % 2 ^ 8 = v at *
    rw [y160 hv]
    refine lay_hs hv H4 (fun hl h5 H5 => ⟨_, rfl, y5 rfl ?_⟩) (fun hl => ⟨_, rfl, y10 rfl (z267.L1_Xret ?_)⟩)
    ·rw [if_pos hl] at k
     dsimp only
     rw [inc (by omega)]
     exact ih (i + 1) (by omega) k H5
    ·rw [if_neg hl] at k; exact k (by decide) h3 _ H4
  exact go v1 0 (by omega) k H5
end
end Go.Proofs.YtmkjmmpldepknaaDoor

set_option maxRecDepth 20000
namespace Go.Proofs.YtmkjmmpldepknaaDoor
open Go Go.HW Go.HW.Inf Go.HW.Pz Go.HW.Can
variable {h : Heap} {L : List Assn} {Q : Value → Heap → Prop} {a : OA} {n c : Nat}
def fixv (i : Nat) : Nat := if i < 144 then 8 else if i > 279 then 8 else if i < 256 then 9 else 7
theorem fixLit_eq : fixLit = (List.range 288).map fixv := by decide +kernel
theorem fixLit_take {i : Nat} (hi : i < 288) : fixLit.take (i + 1) = fixLit.take i ++ [fixv i] := by
 rw [fixLit_eq, ← List.map_take, ← List.map_take, List.take_range, List.take_range, show min (i + 1) 288 = i + 1 by omega, show min i 288 = i by omega, List.range_succ, List.map_append]; rfl
theorem fixLit_chk : chk fixLit = 0 := by decide +kernel
theorem fixDist_chk : chk fixDist = 0 := by decide +kernel
theorem fixLit_len : fixLit.length = 288 := by decide +kernel
theorem fixLit_le : ∀ x ∈ fixLit, x ≤ 15 := by decide +kernel
theorem fixDist_le : ∀ x ∈ fixDist, x ≤ 15 := by decide +kernel
theorem fixed_hs (H : Hs h L) (k : ∀ h' a c b, Hs h' (own (some ⟨b, 0, none⟩) 32 32 y18 1 (nI fixDist) :: own a 288 c y18 1 (nI fixLit) :: L) → Q (.tuple #[.slice a 288 c, .slice (some ⟨b, 0, none⟩) 32 32]) h') : SpecH PP z256 [] h Q := by
 have go : ∀ (q i : Nat) {h : Heap} {a : OA} {n c : Nat}, i + q = 288 → n = i → Hs h (own a n c y18 1 (nI (fixLit.take i)) :: L) → z255.L1 a n c (i : Nat) (z255.K1 Q) h := by
  intro q
  induction q with
  | zero =>
   intro i h a n c hi hn H
   obtain rfl : i = 288 := by omega
   subst hn
   refine z255.L1_of (y5 (by decide) (z255.L1_X0 ?_))
   rw [List.take_of_length_le (by rw [fixLit_len]; omega)] at H
   have H1 := H.new (t := y18) (cs := ([_] : List Value).toArray) (xs := nI [5]) rfl
   refine y158 (v := 5) (k := 32) (fun h H => H.ptrd (by simp)) (by omega) (by omega) (by simp) H1 fun h2 b H2 => ⟨_, _, _, rfl, ?_⟩
   exact k h2 a c b (H2.sel 3 [0, 2] (by decide))
  | succ q ih =>
   intro i h a n c hi hn H
   subst hn
   have st : ∀ (v : Nat), fixv n = v → hwp PP (Builtin.append_ #[y14, y14] y14 #[.slice a n c, .slice (some ⟨Array.size h, 0, none⟩) 1 1]) (fun u h2 => ∃ (t18 : OA) (t18n t18c : Nat), u = (.slice t18 t18n t18c) ∧ z255.J2 t18 t18n t18c (n : Nat) (z255.K1 Q) h2) (Array.push h (.cells #[.int .i64 (v : Nat)] y18 (0, 0))) := by
    intro v hv
    refine H.app_vals y25 (m := 1) (ys := [.int .i64 (v : Nat)]) rfl rfl (by simp [oneC]) (fun h3 a3 c3 H3 => ⟨_, _, _, rfl, z255.J2_of ?_⟩) (by omega) (by omega)
    try dsimp only
    rw [inc (by omega)]
    refine ih (n + 1) (by omega) rfl ?_
    rw [fixLit_take (by omega), nI_app, hv]
    exact H3
   refine z255.L1_of (y10 (decide_eq_true (by omega)) ((y20 _ _ _).2 ⟨fun e => z255.J1_of (y10 rfl (st 8 ?_)), fun e => ?_⟩))
   ·have e := of_decide_eq_true e
    unfold fixv; rw [if_pos (by omega)]
   ·have e := of_decide_eq_false e
    refine z255.J1_of ((y20 _ _ _).2 ⟨fun e2 => st 8 ?_, fun e2 => (y20 _ _ _).2 ⟨fun e3 => st 9 ?_, fun e3 => st 7 ?_⟩⟩)
    ·have e2 := of_decide_eq_true e2
     unfold fixv; rw [if_neg (by omega), if_pos (by omega)]
    ·have e2 := of_decide_eq_false e2
     have e3 := of_decide_eq_true e3
     unfold fixv; rw [if_neg (by omega), if_neg (by omega), if_pos (by omega)]
    ·have e2 := of_decide_eq_false e2
     have e3 := of_decide_eq_false e3
     unfold fixv; rw [if_neg (by omega), if_neg (by omega), if_neg (by omega)]
 exact z255.door (go 288 0 rfl rfl (H.own_nil y18 1))
variable {g r at_ most : Nat} {bs out : List Nat}
structure HeadOk (lit dist : List Nat) : Prop where
 l1 : 257 ≤ lit.length
 l2 : lit.length ≤ 286
 d1 : 1 ≤ dist.length
 d2 : dist.length ≤ 30
 l15 : ∀ x ∈ lit, x ≤ 15
 d15 : ∀ x ∈ dist, x ≤ 15
 lk : chk lit = 0
 dk : longest dist = 0 ∨ chk dist = 0
theorem head_hs (T : Tb L) (H : Hs h (Rg g r bs at_ out most :: L))
  (kok : ∀ (lit dist : List Nat) (p : Nat), (∀ o lim, run (val bs) (8 * bs.length) lim headP at_ o = .ok (lit, dist) p o) → HeadOk lit dist → ∀ h' la lc da dc, Hs h' (Rg g r bs p out most :: own la lit.length lc y18 1 (nI lit) :: own da dist.length dc y18 1 (nI dist) :: L) →
   Q (.tuple #[.slice la lit.length lc, .slice da dist.length dc, .int .i64 0]) h')
  (kbad : ∀ e : Int, (∀ o lim, run (val bs) (8 * bs.length) lim headP at_ o = .bad e o) → e ≠ 0 → ∀ h' p, Hs h' (Rg g r bs p out most :: L) → Q (.tuple #[.slice none 0 0, .slice none 0 0, .int .i64 e]) h') :
  SpecH PP z264 [P_ g] h Q := by
 obtain ⟨a, c, hf, H1⟩ := y101.1 H
 refine z263.door ?_
 dsimp only [nilc]
 refine ⟨_, H1.cell (off := 0) rfl rfl, ?_⟩
 have H2 : Hs h (Rr r bs at_ :: pt g y82 [P_ r, .slice a out.length c, .int .i64 (most : Int)] :: own a out.length c y15 1 (nV out) :: L) := H1.sel 3 [2, 0, 1] (by decide)
 refine LRead_hs T.cons.cons H2 (fun lit dist p hr h1 h2 h3 h4 h5 h6 h' la lc da dc H' => ⟨_, _, _, _, _, _, _, rfl, y5 rfl ?_⟩) (fun e e' hr he h' H' => ⟨_, _, _, _, _, _, _, rfl, ?_⟩)
 rotate_left
 ·have he' : e' ≠ 0 ∧ (if e' = 0 then 0 else if e' = 10 then 55 else 52) = e ∧ e ≠ 0 := by
   rcases he with ⟨rfl, rfl⟩ | ⟨rfl, h1, h2⟩
   ·decide
   ·exact ⟨h1, by rw [if_neg h1, if_neg h2], by decide⟩
  refine y10 (bne_iff_ne.2 he'.1) ⟨_, end_pure _ _, _, rfl, ?_⟩
  rw [he'.2.1]
  refine kbad e (fun o lim => ?_) he'.2.2 h' at_ (y101.2 ⟨a, c, hf, H'.sel 3 [1, 2, 0] (by decide)⟩)
  unfold headP; rw [run_bind, hr]
 have H3 : Hs h' (Rg g r bs p out most :: own la lit.length lc y18 1 (nI lit) :: own da dist.length dc y18 1 (nI dist) :: L) := y101.2 ⟨a, c, hf, H'.sel 5 [3, 4, 0, 1, 2] (by decide)⟩
 clear H'
 have no : headOk lit dist = false → z263.J1 la lit.length lc da dist.length dc true Q h' := fun hb =>
  z263.J1_of (y10 rfl (kbad 52 (fun o lim => by unfold headP; rw [run_bind, hr]; simp only [hb]; rfl) (by decide) h' p (H3.sel 3 [0] (by decide))))
 have yes : headOk lit dist = true → z263.J1 la lit.length lc da dist.length dc false Q h' := fun hb => by
  refine z263.J1_of (y5 rfl (kok lit dist p (fun o lim => by unfold headP; rw [run_bind, hr]; simp only [hb]; rfl) ?_ h' la lc da dc H3))
  unfold headOk at hb
  obtain ⟨_, b2, b3⟩ := of_decide_eq_true hb
  exact ⟨h1, h2, h3, h4, h5, h6, b2, b3⟩
 refine ixI y25 (i := 256) (fun h H => (Hs.m1 H).rd) rfl (by omega) H3 fun t ht => ⟨_, ht, ?_⟩
 refine (y20 _ _ _).2 ⟨fun e => no ?_, fun e => ?_⟩
 ·have e := beq_iff_eq.1 e
  exact decide_eq_false fun hh => hh.1 (by omega)
 have e0 := beq_eq_false_iff_ne.1 e
 refine HCheck_hs (l := lit) (fun h H => (Hs.m1 H).rd) rfl (by omega) (by omega) h5 H3 ⟨_, rfl, (y20 _ _ _).2 ⟨fun e => no ?_, fun e => ?_⟩⟩
 ·have e := bne_iff_ne.1 e
  exact decide_eq_false fun hh => e (by rw [hh.2.1]; rfl)
 have e1 := bne_eq_false_iff_eq.1 e
 refine Used_hs (l := dist) (fun h H => (H.sel 3 [2] (by decide) : Hs h (own da dist.length dc y18 1 (nI dist) :: L)).rd) rfl (by omega) (by omega) (fun x hx => Nat.le_trans (h6 x hx) (by decide)) H3 ⟨_, rfl, (y20 _ _ _).2 ⟨fun e => ?_, fun e => yes ?_⟩⟩
 ·have e := of_decide_eq_true e
  refine HCheck_hs (l := dist) (fun h H => (H.sel 3 [2] (by decide) : Hs h (own da dist.length dc y18 1 (nI dist) :: L)).rd) rfl (by omega) (by omega) h6 H3 ⟨_, rfl, ?_⟩
  rcases hc : (((chk dist : Nat) : Int) != 0) with _ | _
  ·have hc := bne_eq_false_iff_eq.1 hc
   exact yes (decide_eq_true ⟨by omega, by omega, Or.inr (by omega)⟩)
  ·have hc := bne_iff_ne.1 hc
   exact no (decide_eq_false fun hh => by rcases hh.2.2 with h | h <;> omega)
 ·have e := of_decide_eq_false e
  exact decide_eq_true ⟨by omega, by omega, Or.inl (by omega)⟩
def cpB (dist : List Nat) (n : Nat) : Pz Unit := if longest dist = 0 then .err 53 else (next dist 53).bind fun d => if d > 29 then .err 53 else (distP d).bind fun far => .get fun o => if far > o.length then .err 54 else cpP far n
theorem copyP_def (dist : List Nat) (s : Nat) : copyP dist s = if s > 285 then .err 53 else (lenP s).bind (cpB dist) := rfl
def DecO (dd : OA) (dist : List Nat) (M : List Assn) : Prop := (dd = none ∧ longest dist = 0) ∨ ∃ d M', dd = some ⟨d, 0, none⟩ ∧ M = Dec d dist :: M' ∧ longest dist ≠ 0 ∧ kr dist ≤ 2 ^ 15
theorem cp_hs {far : Nat} (h1 : 1 ≤ far) : ∀ (q i m : Nat) {h : Heap} {out : List Nat}, i + q = m → m ≤ 1000 → far ≤ out.length → far ≤ 100000 → Hs h (Rg g r bs at_ out most :: L) → Told Q g r bs most L (run (val bs) (8 * bs.length) most (cpP far q) at_ out) →
  z261.L1 (some ⟨g, 0, none⟩) (far : Nat) (m : Nat) (i : Nat) (z261.K1 Q) h := by
 intro q
 induction q with
 | zero =>
  intro i m h out hi hm hfar hfb H k
  exact z261.L1_of (y5 (decide_eq_false (by omega)) (z261.L1_X2 (k h H)))
 | succ q ih =>
  intro i m h out hi hm hfar hfb H k
  obtain ⟨a, c, hf, H1⟩ := y101.1 H
  refine z261.L1_of (y10 (decide_eq_true (by omega)) ?_)
  dsimp only [nilc]
  simp only [y47, Nat.zero_add]
  refine ⟨_, _, _, H1.cell (off := 1) rfl rfl, _, _, _, H1.cell (off := 1) rfl rfl, ?_⟩
  rw [show IntKind.i64.wrap ((out.length : Int) - (far : Int)) = ((out.length - far : Nat) : Int) by rw [wz (by omega) (by omega)]; omega]
  have hlt : out.length - far < out.length := by omega
  refine idx y33 (v := .int .u8 (out.getD (out.length - far) 0 : Nat)) H1.m1.rd (by omega) (by omega) (by rw [Int.toNat_natCast]; simp [nV, hlt]) fun t ht => ⟨_, ht, ?_⟩
  have hx := hf.1 _ (y107 hlt)
  simp only [cpP, run] at k
  refine lay_hs hx H (fun hl h5 H5 => ⟨_, rfl, y5 rfl ?_⟩) (fun hl => ⟨_, rfl, y10 rfl (z261.L1_Xret ?_)⟩)
  ·rw [if_pos hl] at k
   try dsimp only
   rw [inc (by omega)]
   exact ih (i + 1) m (by omega) hm (by simp; omega) hfb H5 k
  ·rw [if_neg hl] at k; exact k (by decide) h _ H
theorem cpB_hs {dist : List Nat} {dd : OA} {A : Assn} {M : List Assn} {m : Nat} (hM : DecO dd dist M) (h288 : dist.length ≤ 288) (h15 : ∀ x ∈ dist, x ≤ 15) (hm : m ≤ 1000) (H : Hs h (Rg g r bs at_ out most :: A :: M)) (k : Told Q g r bs most (A :: M) (run (val bs) (8 * bs.length) most (cpB dist m) at_ out)) :
  z261.J1 (some ⟨g, 0, none⟩) dd (m : Nat) Q h := by
 rcases hM with ⟨rfl, h0⟩ | ⟨d, M', rfl, rfl, h0, hkr⟩
 ·unfold cpB at k; rw [if_pos h0] at k
  exact z261.J1_of (y10 rfl (k (by decide) h _ H))
 unfold cpB at k; rw [if_neg h0, run_bind] at k
 obtain ⟨a, c, hf, H1⟩ := y101.1 H
 refine z261.J1_of (y5 rfl ?_)
 dsimp only [nilc]
 refine ⟨_, H1.cell (off := 0) rfl rfl, ?_⟩
 have H2 : Hs h (Rr r bs at_ :: Dec d dist :: pt g y82 [P_ r, .slice a out.length c, .int .i64 (most : Int)] :: own a out.length c y15 1 (nV out) :: A :: M') := H1.sel 5 [2, 4, 0, 1, 3] (by decide)
 have bk : ∀ {h : Heap} {p : Nat}, Hs h (Rr r bs p :: Dec d dist :: pt g y82 [P_ r, .slice a out.length c, .int .i64 (most : Int)] :: own a out.length c y15 1 (nV out) :: A :: M') → Hs h (Rg g r bs p out most :: A :: Dec d dist :: M') := fun H => y101.2 ⟨a, c, hf, H.sel 5 [2, 3, 0, 4, 1] (by decide)⟩
 refine Next_hs (bad := 53) h288 h15 hkr (by decide) H2 (fun s p hr h' H' => ⟨_, _, rfl, y5 rfl ?_⟩) (fun e hr he h' H' => ⟨_, _, rfl, y10 (by rcases he with rfl | rfl <;> rfl) ⟨_, end_pure _ _, _, rfl, ?_⟩⟩)
 rotate_left
 ·rw [hr] at k
  have := k (by rcases he with rfl | rfl <;> decide) h' _ (bk H')
  rcases he with rfl | rfl <;> exact this
 rw [hr] at k
 have H3 := bk H'
 clear H2 H' bk
 obtain ⟨hs1, _, _⟩ := next_sym (hr out most)
 dsimp only at k
 refine (y20 _ _ _).2 ⟨fun e => ?_, fun e => ?_⟩
 ·have e := of_decide_eq_true e
  rw [if_pos (by omega)] at k; exact k (by decide) h' _ H3
 have e := of_decide_eq_false e
 rw [if_neg (by omega), run_bind] at k
 have fin : ∀ {far p : Nat} {h : Heap}, 1 ≤ far → far ≤ 100000 → Hs h (Rg g r bs p out most :: A :: Dec d dist :: M') → Told Q g r bs most (A :: Dec d dist :: M') (run (val bs) (8 * bs.length) most (.get fun o => if far > o.length then .err 54 else cpP far m) p out) → z261.J2 (some ⟨g, 0, none⟩) (m : Nat) (far : Nat) Q h := by
  intro far p h hf1 hf2 H k
  obtain ⟨a, c, hf, H1⟩ := y101.1 H
  refine z261.J2_of ?_
  dsimp only [nilc]
  simp only [y47, Nat.zero_add]
  refine ⟨_, _, _, H1.cell (off := 1) rfl rfl, ?_⟩
  simp only [run] at k
  refine (y20 _ _ _).2 ⟨fun e => ?_, fun e => ?_⟩
  ·have e := of_decide_eq_true e
   rw [if_pos (by omega)] at k; exact k (by decide) h _ H
  ·have e := of_decide_eq_false e
   rw [if_neg (by omega)] at k
   exact cp_hs hf1 m 0 m (by omega) hm (by omega) hf2 H k
 refine (y20 _ _ _).2 ⟨fun e3 => ?_, fun e3 => ?_⟩
 ·have e3 := of_decide_eq_true e3
  have n1 : IntKind.i64.wrap (IntKind.i64.wrap (Int.tdiv (s : Int) 2) - 1) = ((s / 2 - 1 : Nat) : Int) := by
   have : Int.tdiv (s : Int) 2 = ((s / 2 : Nat) : Int) := rfl
   rw [this, wz (x := ((s / 2 : Nat) : Int)) (by omega) (by omega), wz (by omega) (by omega)]; omega
  try dsimp only
  rw [n1]
  unfold distP at k; rw [if_pos (by omega)] at k
  simp only [run] at k
  refine take_hs (n := s / 2 - 1) (by omega) H3 (fun hfit h3 H4 => ⟨_, _, rfl, y5 rfl ?_⟩) (fun hend h3 H4 => ⟨_, _, rfl, y10 rfl ?_⟩)
  rotate_left
  ·rw [if_neg (by omega)] at k; exact k (by decide) h3 _ H4
  rw [if_pos hfit] at k
  have h13 : 2 ^ (s / 2 - 1) ≤ 2 ^ 13 := Nat.pow_le_pow_right (by decide) (by omega)
  have hv : val bs / 2 ^ p % 2 ^ (s / 2 - 1) < 2 ^ (s / 2 - 1) := Nat.mod_lt _ (Nat.pow_pos (by decide))
  generalize val bs / 2 ^ p % 2 ^ (s / 2 - 1) = v at *
  refine y10 (decide_eq_true (by omega)) ?_
  try dsimp only
  have t2 : Int.tmod (s : Int) 2 = ((s % 2 : Nat) : Int) := rfl
  have e1 : IntKind.i64.wrap (2 + Int.tmod (s : Int) 2) = ((2 + s % 2 : Nat) : Int) := by rw [t2, wz (by omega) (by omega)]; omega
  have h3 : (2 + s % 2) * 2 ^ (s / 2 - 1) ≤ 3 * 2 ^ 13 := Nat.mul_le_mul (by omega) h13
  rw [e1, shl_i64 (a := 2 + s % 2) (m := s / 2 - 1) (by omega) (by omega)]
  have e4 : IntKind.i64.wrap (IntKind.i64.wrap (1 + (((2 + s % 2) * 2 ^ (s / 2 - 1) : Nat) : Int)) + (v : Int)) = ((1 + (2 + s % 2) * 2 ^ (s / 2 - 1) + v : Nat) : Int) := by
   generalize (2 + s % 2) * 2 ^ (s / 2 - 1) = w at *
   rw [wz (x := 1 + (w : Int)) (by omega) (by omega), wz (by omega) (by omega)]; omega
  rw [e4]
  exact fin (by omega) (by omega) H4 k
 ·have e3 := of_decide_eq_false e3
  unfold distP at k; rw [if_neg (by omega)] at k
  simp only [run] at k
  try dsimp only
  rw [inc (by omega)]
  exact fin (by omega) (by omega) H3 k
theorem copies_hs {dist : List Nat} {dd : OA} {A : Assn} {M : List Assn} {s : Nat} (hM : DecO dd dist M) (h288 : dist.length ≤ 288) (h15 : ∀ x ∈ dist, x ≤ 15) (hs : 256 < s) (hs2 : s < 288) (H : Hs h (Rg g r bs at_ out most :: A :: M)) (k : Told Q g r bs most (A :: M) (run (val bs) (8 * bs.length) most (copyP dist s) at_ out)) :
  SpecH PP z262 [P_ g, .int .i64 (s : Nat), .pointer dd] h Q := by
 rw [copyP_def] at k
 refine z261.door ((y20 _ _ _).2 ⟨fun e => ?_, fun e => ?_⟩)
 ·have e := of_decide_eq_true e
  rw [if_pos (by omega)] at k; exact k (by decide) h _ H
 have e := of_decide_eq_false e
 rw [if_neg (by omega), run_bind] at k
 refine (y20 _ _ _).2 ⟨fun e2 => ?_, fun e2 => ?_⟩
 ·have e2 := beq_iff_eq.1 e2
  unfold lenP at k; rw [if_pos (by omega)] at k
  exact cpB_hs (m := 258) hM h288 h15 (by omega) H k
 have e2 := beq_eq_false_iff_ne.1 e2
 refine (y20 _ _ _).2 ⟨fun e3 => ?_, fun e3 => ?_⟩
 ·have e3 := of_decide_eq_true e3
  have n0 : IntKind.i64.wrap ((s : Int) - 261) = ((s - 261 : Nat) : Int) := by rw [wz (by omega) (by omega)]; omega
  have n1 : IntKind.i64.wrap (Int.tdiv (IntKind.i64.wrap ((s : Int) - 261)) 4) = (((s - 261) / 4 : Nat) : Int) := by
   have : Int.tdiv ((s - 261 : Nat) : Int) 4 = (((s - 261) / 4 : Nat) : Int) := rfl
   rw [n0, this, wz (by omega) (by omega)]
  try dsimp only
  rw [n1, n0]
  unfold lenP at k; rw [if_neg (by omega), if_pos (by omega)] at k
  simp only [run] at k
  refine take_hs (n := (s - 261) / 4) (by omega) H (fun hfit h3 H4 => ⟨_, _, rfl, y5 rfl ?_⟩) (fun hend h3 H4 => ⟨_, _, rfl, y10 rfl ?_⟩)
  rotate_left
  ·rw [if_neg (by omega)] at k; exact k (by decide) h3 _ H4
  rw [if_pos hfit] at k
  have h13 : 2 ^ ((s - 261) / 4) ≤ 2 ^ 6 := Nat.pow_le_pow_right (by decide) (by omega)
  have hv : val bs / 2 ^ at_ % 2 ^ ((s - 261) / 4) < 2 ^ ((s - 261) / 4) := Nat.mod_lt _ (Nat.pow_pos (by decide))
  generalize val bs / 2 ^ at_ % 2 ^ ((s - 261) / 4) = v at *
  refine y10 (decide_eq_true (by omega)) ?_
  try dsimp only
  have t2 : Int.tmod ((s - 261 : Nat) : Int) 4 = (((s - 261) % 4 : Nat) : Int) := rfl
  have e1 : IntKind.i64.wrap (4 + Int.tmod ((s - 261 : Nat) : Int) 4) = ((4 + (s - 261) % 4 : Nat) : Int) := by rw [t2, wz (by omega) (by omega)]; omega
  have h3 : (4 + (s - 261) % 4) * 2 ^ ((s - 261) / 4) ≤ 7 * 2 ^ 6 := Nat.mul_le_mul (by omega) h13
  rw [e1, shl_i64 (a := 4 + (s - 261) % 4) (m := (s - 261) / 4) (by omega) (by omega)]
  have e4 : IntKind.i64.wrap (IntKind.i64.wrap (3 + (((4 + (s - 261) % 4) * 2 ^ ((s - 261) / 4) : Nat) : Int)) + (v : Int)) = ((3 + (4 + (s - 261) % 4) * 2 ^ ((s - 261) / 4) + v : Nat) : Int) := by
   generalize (4 + (s - 261) % 4) * 2 ^ ((s - 261) / 4) = w at *
   rw [wz (x := 3 + (w : Int)) (by omega) (by omega), wz (by omega) (by omega)]; omega
  rw [e4]
  exact cpB_hs hM h288 h15 (by omega) H4 k
 ·have e3 := of_decide_eq_false e3
  unfold lenP at k; rw [if_neg (by omega), if_neg (by omega)] at k
  simp only [run] at k
  try dsimp only
  rw [show IntKind.i64.wrap ((s : Int) - 254) = ((s - 254 : Nat) : Int) by rw [wz (by omega) (by omega)]; omega]
  exact cpB_hs hM h288 h15 (by omega) H k
end Go.Proofs.YtmkjmmpldepknaaDoor

set_option maxRecDepth 20000
namespace Go.Proofs.YtmkjmmpldepknaaDoor
open Go Go.HW Go.HW.Inf Go.HW.Pz Go.HW.Can
variable {h : Heap} {L : List Assn} {Q : Value → Heap → Prop} {a : OA} {n c : Nat}
variable {g r at_ most : Nat} {bs out : List Nat}
structure Two (lit dist : List Nat) : Prop where
 l1 : 257 ≤ lit.length
 l2 : lit.length ≤ 288
 d1 : 1 ≤ dist.length
 d2 : dist.length ≤ 288
 l15 : ∀ x ∈ lit, x ≤ 15
 d15 : ∀ x ∈ dist, x ≤ 15
 lk : chk lit = 0
 dk : longest dist = 0 ∨ chk dist = 0
theorem HeadOk.two {lit dist : List Nat} (k : HeadOk lit dist) : Two lit dist := ⟨k.l1, by have := k.l2; omega, k.d1, by have := k.d2; omega, k.l15, k.d15, k.lk, k.dk⟩
theorem fix_two : Two fixLit fixDist := ⟨by decide +kernel, by decide +kernel, by decide +kernel, by decide +kernel, fixLit_le, fixDist_le, fixLit_chk, Or.inr fixDist_chk⟩
theorem syms_go {lit dist : List Nat} {d : Nat} {dd : OA} {M : List Assn} (K : Two lit dist) (hM : DecO dd dist M) : ∀ (f : Nat) {h : Heap} {p : Nat} {out : List Nat}, 8 * bs.length < f + p → Hs h (Rg g r bs p out most :: Dec d lit :: M) → Told Q g r bs most (Dec d lit :: M) (run (val bs) (8 * bs.length) most (symP lit dist f) p out) →
  z269.L1 (some ⟨g, 0, none⟩) (some ⟨d, 0, none⟩) dd (z269.K2 Q) h := by
 intro f
 induction f with
 | zero =>
  intro h p out hf H k
  obtain ⟨_, _, _, H1⟩ := y101.1 H
  obtain ⟨_, _, _, ⟨_, _, _, hat⟩, _⟩ := Rr_iff.1 H1.m2
  omega
 | succ f ih =>
  intro h p out hf H k
  obtain ⟨a, c, hfx, H1⟩ := y101.1 H
  refine z269.L1_of ?_
  try dsimp only [nilc]
  refine ⟨_, H1.cell (off := 0) rfl rfl, ?_⟩
  have H2 : Hs h (Rr r bs p :: Dec d lit :: pt g y82 [P_ r, .slice a out.length c, .int .i64 (most : Int)] :: own a out.length c y15 1 (nV out) :: M) := H1.sel 4 [2, 3, 0, 1] (by decide)
  have bk : ∀ {h : Heap} {p : Nat}, Hs h (Rr r bs p :: Dec d lit :: pt g y82 [P_ r, .slice a out.length c, .int .i64 (most : Int)] :: own a out.length c y15 1 (nV out) :: M) → Hs h (Rg g r bs p out most :: Dec d lit :: M) := fun H => y101.2 ⟨a, c, hfx, H.sel 4 [2, 3, 0, 1] (by decide)⟩
  simp only [symP, run_bind] at k
  refine Next_hs (bad := 53) K.l2 K.l15 (chk_kr K.lk) (by decide) H2 (fun s p' hr h' H' => ⟨_, _, rfl, y5 rfl ?_⟩) (fun e hr he h' H' => ⟨_, _, rfl, y10 (by rcases he with rfl | rfl <;> rfl) ⟨_, end_pure _ _, _, rfl, z269.L1_Xret ?_⟩⟩)
  rotate_left
  ·rw [hr] at k
   have := k (by rcases he with rfl | rfl <;> decide) h' _ (bk H')
   rcases he with rfl | rfl <;> exact this
  rw [hr] at k
  have H3 := bk H'
  obtain ⟨hs1, hpp, _⟩ := next_sym (hr out most)
  have hl2 := K.l2
  clear H2 H' bk H1
  dsimp only at k
  refine (y20 _ _ _).2 ⟨fun e => ?_, fun e => ?_⟩
  ·have e := beq_iff_eq.1 e
   rw [if_pos (by omega)] at k
   exact z269.L1_X0 (k h' H3)
  have e := beq_eq_false_iff_ne.1 e
  rw [if_neg (by omega)] at k
  refine (y20 _ _ _).2 ⟨fun e2 => ?_, fun e2 => ?_⟩
  ·have e2 := of_decide_eq_true e2
   rw [if_pos (by omega)] at k
   simp only [run] at k
   try dsimp only
   rw [y160 (by omega)]
   refine lay_hs (by omega) H3 (fun hl h5 H5 => ⟨_, rfl, z269.J2_of (y5 rfl ?_)⟩) (fun hl => ⟨_, rfl, z269.J2_of (y10 rfl (z269.L1_Xret ?_))⟩)
   ·rw [if_pos hl] at k
    exact ih (by omega) H5 k
   ·rw [if_neg hl] at k; exact k (by decide) h' _ H3
  ·have e2 := of_decide_eq_false e2
   rw [if_neg (by omega), run_bind] at k
   refine copies_hs hM K.d2 K.d15 (by omega) (by omega) H3 ?_
   rcases hz : run (val bs) (8 * bs.length) most (copyP dist s) p' out with ⟨u, p2, o2⟩ | ⟨e, o2⟩
   ·rw [hz] at k
    refine fun h5 H5 => ⟨_, rfl, z269.J2_of (y5 rfl ?_)⟩
    have hat : p' ≤ 8 * bs.length := by
     obtain ⟨_, _, _, H1⟩ := y101.1 H3
     obtain ⟨_, _, _, ⟨_, _, _, hat⟩, _⟩ := Rr_iff.1 H1.m2
     omega
    have := run_at (Nat.dvd_mul_right 8 bs.length) _ hz hat
    exact ih (by omega) H5 k
   ·rw [hz] at k
    exact fun he h5 p5 H5 => ⟨_, rfl, z269.J2_of (y10 (bne_iff_ne.2 he) (z269.L1_Xret (k he h5 p5 H5)))⟩
theorem symbols_hs {lit dist : List Nat} {la da : OA} {ln lc dn dc : Nat} (K : Two lit dist) (gl : Gv L la (nI lit)) (gd : Gv L da (nI dist)) (hln : lit.length = ln) (hdn : dist.length = dn) (hb : 8 * bs.length < FF) (H : Hs h (Rg g r bs at_ out most :: L)) (k : Told Q g r bs most L (run (val bs) (8 * bs.length) most (symP lit dist FF) at_ out)) :
  SpecH PP z270 [P_ g, .slice la ln lc, .slice da dn dc] h Q := by
 have a1 := K.l1; have a2 := K.l2; have a3 := K.d1; have a4 := K.d2
 refine z269.door (New_hs gl.cons hln (by omega) (by omega) K.l15 K.lk H fun h2 d H2 => ⟨_, _, rfl, ?_⟩)
 refine Used_hs gd.cons.cons hdn (by omega) (by omega) (fun x hx => Nat.le_trans (K.d15 x hx) (by decide)) H2 ⟨_, rfl, (y20 _ _ _).2 ⟨fun e => ?_, fun e => ?_⟩⟩
 ·have e := of_decide_eq_true e
  have hk := K.dk.resolve_left (by omega)
  refine New_hs gd.cons.cons hdn (by omega) (by omega) K.d15 hk H2 fun h3 d2 H3 => ⟨_, _, rfl, z269.J1_of ?_⟩
  exact syms_go K (Or.inr ⟨d2, L, rfl, rfl, e, chk_kr hk⟩) FF (by omega) (H3.sel 3 [2, 1, 0] (by decide)) k.drop.drop
 ·have e := of_decide_eq_false e
  exact z269.J1_of (syms_go K (Or.inl ⟨rfl, by omega⟩) FF (by omega) (Hs.m1 H2) k.drop)
theorem blocks_hs (T : Tb L) (hb : 8 * bs.length < FF) (H : Hs h (Rg g r bs at_ out most :: L)) (k : Told Q g r bs most L (run (val bs) (8 * bs.length) most (blocksP FF FF) at_ out)) : SpecH PP z260 [P_ g] h Q := by
 have go : ∀ (f : Nat) {h : Heap} {p : Nat} {out : List Nat}, 8 * bs.length < f + p → Hs h (Rg g r bs p out most :: L) → Told Q g r bs most L (run (val bs) (8 * bs.length) most (blocksP FF f) p out) → z259.L1 (some ⟨g, 0, none⟩) (z259.K1 Q) h := by
  intro f
  induction f with
  | zero =>
   intro h p out hf H k
   obtain ⟨_, _, _, H1⟩ := y101.1 H
   obtain ⟨_, _, _, ⟨_, _, _, hat⟩, _⟩ := Rr_iff.1 H1.m2
   omega
  | succ f ih =>
   intro h p out hf H k
   simp only [blocksP, run] at k
   refine z259.L1_of ?_
   refine take_hs (n := 1) (by omega) H (fun hfit h3 H4 => ⟨_, _, rfl, y5 rfl ?_⟩) (fun hend h3 H4 => ⟨_, _, rfl, y10 rfl (z259.L1_Xret ?_)⟩)
   rotate_left
   ·rw [if_neg (by omega)] at k; exact k (by decide) h3 _ H4
   rw [if_pos hfit] at k
   have hv1 : val bs / 2 ^ p % 2 ^ 1 < 2 := Nat.mod_lt _ (by decide)
   generalize val bs / 2 ^ p % 2 ^ 1 = last at *
   refine take_hs (n := 2) (by omega) H4 (fun hfit2 h4 H5 => ⟨_, _, rfl, y5 rfl ?_⟩) (fun hend h4 H5 => ⟨_, _, rfl, y10 rfl (z259.L1_Xret ?_)⟩)
   rotate_left
   ·rw [if_neg (by omega)] at k; exact k (by decide) h4 _ H5
   rw [if_pos hfit2] at k
   have hv2 : val bs / 2 ^ (p + 1) % 2 ^ 2 < 4 := Nat.mod_lt _ (by decide)
   generalize val bs / 2 ^ (p + 1) % 2 ^ 2 = kind at *
   rw [run_bind] at k
   have tell : ∀ {M : List Assn}, (∀ {h'}, Hs h' M → Hs h' M) → Told (fun u h1 => ∃ (e : Int), u = (.int .i64 e) ∧ z259.J1 (some ⟨g, 0, none⟩) (last : Nat) e (z259.K1 Q) h1) g r bs most L (run (val bs) (8 * bs.length) most (bodyP FF kind) (p + 1 + 2) out) := by
    intro M _
    rcases hz : run (val bs) (8 * bs.length) most (bodyP FF kind) (p + 1 + 2) out with ⟨u, p2, o2⟩ | ⟨e, o2⟩
    ·rw [hz] at k
     dsimp only at k
     refine fun h5 H5 => ⟨_, rfl, z259.J1_of (y5 rfl ((y20 _ _ _).2 ⟨fun e => ?_, fun e => ?_⟩))⟩
     ·have e := beq_iff_eq.1 e
      rw [if_pos (by omega)] at k
      have := run_at (Nat.dvd_mul_right 8 bs.length) _ hz hfit2
      exact ih (by omega) H5 k
     ·have e := beq_eq_false_iff_ne.1 e
      rw [if_neg (by omega)] at k
      exact z259.L1_X0 (k h5 H5)
    ·rw [hz] at k
     exact fun he h5 p5 H5 => ⟨_, rfl, z259.J1_of (y10 (bne_iff_ne.2 he) (z259.L1_Xret (k he h5 p5 H5)))⟩
   have tell := tell (M := L) id
   clear k ih
   unfold bodyP at tell
   refine (y20 _ _ _).2 ⟨fun e => ?_, fun e => ?_⟩
   ·have e := beq_iff_eq.1 e
    rw [if_pos (by omega)] at tell
    exact stored_hs H5 tell
   have e := beq_eq_false_iff_ne.1 e
   rw [if_neg (by omega)] at tell
   refine (y20 _ _ _).2 ⟨fun e2 => ?_, fun e2 => ?_⟩
   ·have e2 := beq_iff_eq.1 e2
    rw [if_pos (by omega)] at tell
    refine fixed_hs H5 fun h6 la lc db H6 => ⟨_, _, _, _, _, _, rfl, ?_⟩
    exact symbols_hs (L := own (some ⟨db, 0, none⟩) 32 32 y18 1 (nI fixDist) :: own la 288 lc y18 1 (nI fixLit) :: L) fix_two (fun h H => (Hs.m1 H).rd) (fun h H => H.rd) fixLit_len (by decide +kernel) hb (H6.sel 3 [2, 0, 1] (by decide)) tell.drop.drop
   have e2 := beq_eq_false_iff_ne.1 e2
   rw [if_neg (by omega)] at tell
   refine (y20 _ _ _).2 ⟨fun e3 => ?_, fun e3 => ?_⟩
   ·have e3 := beq_iff_eq.1 e3
    rw [if_pos (by omega), run_bind] at tell
    refine head_hs T H5 (fun lit dist p2 hr hk h6 la lc da dc H6 => ⟨_, _, _, _, _, _, _, rfl, y10 rfl ?_⟩) (fun e hr he h6 p6 H6 => ⟨_, _, _, _, _, _, _, rfl, y5 (beq_eq_false_iff_ne.2 he) ?_⟩)
    ·rw [hr] at tell
     exact symbols_hs (L := own la lit.length lc y18 1 (nI lit) :: own da dist.length dc y18 1 (nI dist) :: L) hk.two (fun h H => H.rd) (fun h H => (Hs.m1 H).rd) rfl rfl hb H6 tell.drop.drop
    ·rw [hr] at tell
     obtain ⟨e', he', hJ⟩ := tell he h6 p6 H6
     injection he' with _ he'; subst he'
     exact hJ
   ·have e3 := beq_eq_false_iff_ne.1 e3
    rw [if_neg (by omega)] at tell
    simp only [run] at tell
    obtain ⟨e', he', hJ⟩ := tell (by decide) h4 _ H5
    injection he' with _ he'; subst he'
    exact hJ
 exact z259.door (go FF (by omega) H k)
theorem iread_hs (T : Tb L) (H : Hs h L) (hr : Rd h a (nV bs)) (hn : bs.length = n) (hn0 : a = none → n = 0) (hx : ∀ x ∈ bs, x < 256) (hmax : n ≤ 2 ^ 26) (hm : most ≤ 16384)
  (k : ∀ g r, Told (fun v h' => ∃ e : Int, v = .int .i64 e ∧ Q (.tuple #[P_ g, .int .i64 e]) h') g r bs most L (infl bs most)) : SpecH PP z258 [.slice a n c, .int .i64 (most : Nat)] h Q := by
 refine z257.door (NewReader_hs H hr hn hn0 hx (by omega) fun h2 p H2 => ⟨_, rfl, ?_⟩)
 dsimp only
 have H3 := H2.new (t := y82) (cs := ([_, _, _] : List Value).toArray) (xs := [P_ p, .slice none 0 0, .int .i64 (most : Nat)]) rfl
 refine blocks_hs T (by unfold FF; omega) (y101.2 ⟨none, 0, ⟨by simp, by simp, hm⟩, (H3.own_nil y15 1).m1⟩) (k _ p)
theorem y167 (T : Tb L) (H : Hs h L) (hr : Rd h a (nV bs)) (hn : bs.length = n) (hn0 : a = none → n = 0) (hx : ∀ x ∈ bs, x < 256) (hmax : n ≤ 2 ^ 26) (hm : most ≤ 16384)
  (kok : ∀ p o, infl bs most = .ok () p o → (∀ x ∈ o, x < 256) → o.length ≤ most → ∀ h' a' c', Hs h' (own a' o.length c' y15 1 (nV o) :: L) → Q (.tuple #[.slice a' o.length c', .int .i64 ((p + 7) / 8 : Nat), .int .i64 0]) h')
  (kbad : ∀ e o, infl bs most = .bad e o → e ≠ 0 → (∀ x ∈ o, x < 256) → ∀ h', Hs h' L → Q (.tuple #[.slice none 0 0, .int .i64 0, .int .i64 e]) h') : SpecH PP z242 [.slice a n c, .int .i64 (most : Nat)] h Q := by
 refine z241.door (y5 (decide_eq_false (by omega)) (z241.J1_of (y5 (decide_eq_false (by omega)) ?_)))
 refine iread_hs T H hr hn hn0 hx hmax hm fun g r => ?_
 rcases hz : infl bs most with ⟨u, p2, o2⟩ | ⟨e, o2⟩
 ·refine fun h5 H5 => ⟨_, rfl, _, _, rfl, y5 rfl ?_⟩
  obtain ⟨a5, c5, hf, H1⟩ := y101.1 H5
  try dsimp only [nilc]
  simp only [y47, Nat.zero_add]
  have hp := (infl_gone hz).1
  have fin : Q (.tuple #[.slice a5 o2.length c5, .int .i64 (IntKind.i64.wrap (Int.tdiv (IntKind.i64.wrap ((p2 : Int) + 7)) 8)), .int .i64 0]) h5 := by
   rw [show IntKind.i64.wrap ((p2 : Int) + 7) = ((p2 + 7 : Nat) : Int) by rw [wz (by omega) (by omega)]; omega]
   have : Int.tdiv ((p2 + 7 : Nat) : Int) 8 = (((p2 + 7) / 8 : Nat) : Int) := rfl
   rw [this, wz (by omega) (by omega)]
   exact kok p2 o2 hz hf.1 hf.2.1 h5 a5 c5 (H1.sel 3 [1] (by decide))
  refine ⟨_, H1.cell (off := 0) rfl rfl, ⟨_, _, _, H1.cell (off := 1) rfl rfl, Gone_hs H1.m2 ⟨_, rfl, fin⟩⟩, Gone_hs H1.m2 ⟨_, rfl, _, _, _, H1.cell (off := 1) rfl rfl, fin⟩, trivial⟩
 ·intro he h5 p5 H5
  obtain ⟨a5, c5, hf, H1⟩ := y101.1 H5
  exact ⟨_, rfl, _, _, rfl, y10 (bne_iff_ne.2 he) (kbad e o2 hz he hf.1 h5 (H1.sel 3 [] (by decide)))⟩
end Go.Proofs.YtmkjmmpldepknaaDoor

set_option maxRecDepth 20000
namespace Go.Proofs.YtmkjmmpldepknaaDoor
open Go Go.HW Go.HW.Inf Go.HW.Pz Go.HW.Can
variable {h : Heap} {L : List Assn} {Q : Value → Heap → Prop} {a : OA} {n c : Nat}
variable {s most : Nat} {F x : List Nat}
theorem own_none0 {a : OA} {n c : Nat} {e : TypeId} {sz : Nat} {xs : List Value} (H : Hs h (own a n c e sz xs :: L)) : a = none → c = 0 := fun ha => by
 obtain ⟨_, _, h3 | ⟨b, off, cs, e1, _⟩⟩ := H.Own
 ·exact h3.2
 ·rw [ha] at e1; cases e1
def Ifact (F : List Nat) (most t : Nat) (e : Int) (at_ : Nat) : Prop := match infl F most with
 | .ok _ p o => e = 0 ∧ t = o.length ∧ at_ = (p + 7) / 8
 | .bad e' o => e = e' ∧ e' ≠ 0 ∧ (e' = 55 → t = o.length)
def Ist (s : Nat) (F : List Nat) (most : Nat) : Assn := fun m => ∃ a c t e at_, ((∀ x ∈ F, x < 256) ∧ F.length ≤ 2 ^ 22 ∧ most ≤ 16384 ∧ t ≤ most ∧ Ifact F most t e at_) ∧
 Sp [pt s y99 [.int .i64 (most : Nat), .slice a F.length c, .int .i64 (t : Nat), .int .i64 e, .int .i64 (at_ : Nat)], own a F.length c y15 1 (nV F)] m
theorem Ist_iff : Hs h (Ist s F most :: L) ↔ ∃ a c t e at_, ((∀ x ∈ F, x < 256) ∧ F.length ≤ 2 ^ 22 ∧ most ≤ 16384 ∧ t ≤ most ∧ Ifact F most t e at_) ∧
  Hs h (pt s y99 [.int .i64 (most : Nat), .slice a F.length c, .int .i64 (t : Nat), .int .i64 e, .int .i64 (at_ : Nat)] :: own a F.length c y15 1 (nV F) :: L) := by
 unfold Ist; simp only [Hs.ex, Hs.and, Hs.app, List.cons_append, List.nil_append]
theorem infl_nil (lim : Nat) : infl [] lim = .bad 55 [] := by
 unfold infl inflP FF blocksP; rfl
theorem INew_hs (hm : most ≤ 16384) (H : Hs h L) (k : ∀ h' s, Hs h' (Ist s [] most :: L) → Q (.tuple #[P_ s, .int .i64 0]) h') : SpecH PP z244 [.int .i64 (most : Nat)] h Q := by
 refine z243.door (y5 (decide_eq_false (by omega)) (z243.J1_of (y5 (decide_eq_false (by omega)) ?_)))
 have H3 := H.new (t := y99) (cs := ([_, _, _, _, _] : List Value).toArray) (xs := [.int .i64 (most : Nat), .slice none 0 0, .int .i64 (0 : Nat), .int .i64 55, .int .i64 (0 : Nat)]) rfl
 refine k _ _ (Ist_iff.2 ⟨none, 0, 0, 55, 0, ⟨by simp, by simp, hm, by omega, ?_⟩, (H3.own_nil y15 1).m1⟩)
 unfold Ifact; rw [infl_nil]; simp
def isOk : Rz Unit → Bool | .ok _ _ _ => true | .bad _ _ => false
theorem IDone_hs (H : Hs h (Ist s F most :: L)) (k : Q (.bool (isOk (infl F most))) h) : SpecH PP z248 [P_ s] h Q := by
 obtain ⟨a, c, t, e, at_, ⟨h1, h2, h3, h4, hf⟩, H1⟩ := Ist_iff.1 H
 refine z247.door (y10 rfl ?_)
 try dsimp only [nilc]
 try simp only [y47, Nat.zero_add]
 refine ⟨_, H1.cell (off := 3) rfl rfl, ?_⟩
 unfold Ifact at hf
 rcases hz : infl F most with ⟨u, p, o⟩ | ⟨e', o⟩
 ·rw [hz] at hf k; obtain ⟨rfl, _, _⟩ := hf; exact k
 ·rw [hz] at hf k; obtain ⟨rfl, he, _⟩ := hf
  rw [show (e == 0) = false from beq_eq_false_iff_ne.2 he]; exact k
theorem IClose_hs (H : Hs h (Ist s F most :: L)) (k : Q (.int .i64 (Rz.end' (infl F most))) h) : SpecH PP z246 [P_ s] h Q := by
 obtain ⟨a, c, t, e, at_, ⟨h1, h2, h3, h4, hf⟩, H1⟩ := Ist_iff.1 H
 refine z245.door (y5 rfl ?_)
 try dsimp only [nilc]
 try simp only [y47, Nat.zero_add]
 refine ⟨_, H1.cell (off := 3) rfl rfl, ?_⟩
 unfold Ifact at hf
 rcases hz : infl F most with ⟨u, p, o⟩ | ⟨e', o⟩
 ·rw [hz] at hf k; obtain ⟨rfl, _, _⟩ := hf; exact k
 ·rw [hz] at hf k; obtain ⟨rfl, he, _⟩ := hf; exact k
theorem IRest_hs (H : Hs h (Ist s F most :: L)) {p : Nat} {o : List Nat} (hz : infl F most = .ok () p o) (k : ∀ h' a' c', (a' = none → F.length - (p + 7) / 8 = 0) → Hs h' (own a' (F.length - (p + 7) / 8) c' y15 1 (nV (F.drop ((p + 7) / 8))) :: Ist s F most :: L) → Q (.slice a' (F.length - (p + 7) / 8) c') h') :
  SpecH PP z252 [P_ s] h Q := by
 refine z251.door (IDone_hs H ⟨_, rfl, y5 (by rw [hz]; rfl) ?_⟩)
 obtain ⟨a, c, t, e, at_, ⟨q1, q2, q3, q4, hf⟩, H1⟩ := Ist_iff.1 H
 have hf0 := hf
 unfold Ifact at hf; rw [hz] at hf
 obtain ⟨rfl, rfl, rfl⟩ := hf
 try dsimp only [nilc]
 try simp only [y47, Nat.zero_add]
 refine ⟨_, _, _, H1.cell (off := 1) rfl rfl, _, H1.cell (off := 4) rfl rfl, ?_⟩
 have hg := infl_gone hz
 refine bytes_tailG y33 (L := own a F.length c y15 1 (nV F) :: pt s y99 [.int .i64 (most : Nat), .slice a F.length c, .int .i64 (o.length : Nat), .int .i64 0, .int .i64 ((p + 7) / 8 : Nat)] :: L) (fun h H => H.rd) rfl H1.m1.own_le (own_none0 H1.m1) hg.2 fun a2 c2 g2 hn2 _ _ => ⟨_, _, _, rfl, ?_⟩
 refine CloneB_hs g2 (by simp) hn2 (by omega) H1.m1 fun h3 a3 c3 hn3 H3 => ⟨_, _, _, rfl, k h3 a3 c3 hn3 ?_⟩
 exact (Ist_iff.2 ⟨a, c, _, _, _, ⟨q1, q2, q3, q4, hf0⟩, (H3.sel 3 [2, 1, 0] (by decide))⟩).m1
theorem IFeed_hs {xa : OA} {xn xc : Nat} (T : Tb L) (H : Hs h (Ist s F most :: L)) (g : Gv L xa (nV x)) (hxn : x.length = xn) (hx0 : xa = none → xn = 0) (hx : ∀ v ∈ x, v < 256) (hmax : F.length + xn ≤ 2 ^ 22)
  (kok : ∀ o, ((∃ p, infl (F ++ x) most = .ok () p o) ∨ infl (F ++ x) most = .bad 55 o) → Rz.out (infl F most) <+: o → ∀ h' a' n' c', n' = o.length - (Rz.out (infl F most)).length → (a' = none → n' = 0) →
   Hs h' (own a' n' c' y15 1 (nV (o.drop (Rz.out (infl F most)).length)) :: Ist s (F ++ x) most :: L) → Q (.tuple #[.slice a' n' c', .int .i64 0]) h')
  (kbad : ∀ e o, infl (F ++ x) most = .bad e o → e ≠ 0 → e ≠ 55 → ∀ h', Hs h' (Ist s (F ++ x) most :: L) → Q (.tuple #[.slice none 0 0, .int .i64 e]) h') :
  SpecH PP z250 [P_ s, .slice xa xn xc] h Q := by
 subst hxn
 obtain ⟨a, c, t, e, at_, ⟨h1, h2, h3, h4, hf⟩, H1⟩ := Ist_iff.1 H
 have hFx : ∀ v ∈ F ++ x, v < 256 := fun v hv => by rcases List.mem_append.1 hv with h | h; exact h1 v h; exact hx v h
 have part := infl_part (lim := most) hFx (k := F.length) (by simp)
 rw [List.take_left'] at part
 rotate_left
 ·rfl
 refine z249.door (y5 rfl ?_)
 try dsimp only [nilc]
 try simp only [y47, Nat.zero_add]
 refine ⟨_, _, _, H1.cell (off := 1) rfl rfl, ?_⟩
 refine H1.m1.app_sl y33 ((g.cons.cons) _ H1.m1) (by rw [nV_len]; omega) hx0 (nV_one _) (fun h5 a5 c5 H5 => ⟨_, _, _, rfl, ?_⟩) (by omega) (by omega)
 rw [← nV_app, show F.length + x.length = (F ++ x).length by simp] at H5
 rw [show F.length + x.length = (F ++ x).length by simp]
 have hlen : (F ++ x).length ≤ 2 ^ 22 := by simp; omega
 refine H5.m1.sto (off := 1) (by simp) fun h6 H6 => ?_
 have H6 : Hs h6 (pt s y99 [.int .i64 (most : Nat), .slice a5 (F ++ x).length c5, .int .i64 (t : Nat), .int .i64 e, .int .i64 (at_ : Nat)] :: own a5 (F ++ x).length c5 y15 1 (nV (F ++ x)) :: L) := H6
 refine ⟨_, H6.cell (off := 3) rfl rfl, ?_⟩
 by_cases e0 : e = 0
 ·refine y10 (beq_iff_eq.2 e0) ?_
  unfold Ifact at hf
  rcases hz : infl F most with ⟨u, p, o⟩ | ⟨e', o⟩
  ·rw [hz] at hf part
   have part := part.resolve_left (by rintro ⟨o, h, _⟩; cases h)
   refine kok o (Or.inl ⟨p, part⟩) (by rw [hz]; exact List.prefix_refl _) h6 none 0 0 (by rw [hz]; simp [Rz.out]) (fun _ => rfl) ?_
   ·rw [hz, show List.drop (Rz.out (Rz.ok u p o)).length o = [] by simp [Rz.out]]
    exact (Ist_iff.2 ⟨a5, c5, t, e, at_, ⟨hFx, hlen, h3, h4, by unfold Ifact; rw [part]; exact hf⟩, H6⟩).own_nil y15 1
  ·rw [hz] at hf; exact absurd (hf.1.symm.trans e0) hf.2.1
 refine y5 (beq_eq_false_iff_ne.2 e0) ⟨_, H6.cell (off := 3) rfl rfl, ?_⟩
 by_cases e55 : e = 55
 rotate_left
 ·refine y10 (bne_iff_ne.2 e55) ⟨_, H6.cell (off := 3) rfl rfl, ?_⟩
  unfold Ifact at hf
  rcases hz : infl F most with ⟨u, p, o⟩ | ⟨e', o⟩
  ·rw [hz] at hf; exact absurd hf.1 e0
  ·rw [hz] at hf part
   have part := part.resolve_left (by rintro ⟨o, h, _⟩; injection h with h; exact e55 (hf.1.trans h))
   obtain ⟨rfl, _, _⟩ := hf
   exact kbad e o part e0 e55 h6 (Ist_iff.2 ⟨a5, c5, t, e, at_, ⟨hFx, hlen, h3, h4, by unfold Ifact; rw [part]; exact ⟨rfl, e0, fun h => absurd h e55⟩⟩, H6⟩)
 subst e55
 refine y5 rfl ⟨_, _, _, H6.cell (off := 1) rfl rfl, _, H6.cell (off := 0) rfl rfl, ?_⟩
 have told : t = (Rz.out (infl F most)).length ∧ ∃ o, infl F most = .bad 55 o := by
  unfold Ifact at hf
  rcases hz : infl F most with ⟨u, p, o⟩ | ⟨e', o⟩
  ·rw [hz] at hf; exact absurd hf.1 e0
  ·rw [hz] at hf; exact ⟨hf.2.2 hf.1.symm, o, by rw [← hf.1]⟩
 obtain ⟨ht, o0, ho0⟩ := told
 have pre : Rz.out (infl F most) <+: Rz.out (infl (F ++ x) most) := by
  rcases part with ⟨o, h, hp⟩ | h
  ·rw [h]; exact hp
  ·rw [h]; exact List.prefix_refl _
 refine iread_hs (bs := F ++ x) T.cons.cons H6 (H6.m1.rd) rfl (fun ha => by have := own_none0 H6.m1 ha; have := H6.m1.own_le; omega) hFx (by omega) h3 fun g r => ?_
 have fin : ∀ (o : List Nat) (e : Int) (at2 : Nat) {h : Heap} {p : Nat}, infl (F ++ x) most = .bad e o ∧ e = 55 ∨ e = 0 ∧ infl (F ++ x) most = .ok () p o ∧ at2 = (p + 7) / 8 → Hs h (Rg g r (F ++ x) p o most :: pt s y99 [.int .i64 (most : Nat), .slice a5 (F ++ x).length c5, .int .i64 (t : Nat), .int .i64 e, .int .i64 (at2 : Nat)] :: own a5 (F ++ x).length c5 y15 1 (nV (F ++ x)) :: L) →
   z249.J2 (some ⟨s, 0, none⟩) (some ⟨g, 0, none⟩) Q h := by
  intro o e at2 h p hz H
  have hout : Rz.out (infl (F ++ x) most) = o := by rcases hz with ⟨hz, _⟩ | ⟨_, hz, _⟩ <;> rw [hz] <;> rfl
  rw [hout] at pre
  have hpl := pre.length_le
  obtain ⟨a7, c7, hf7, H7⟩ := y101.1 H
  refine z249.J2_of ?_
  try dsimp only [nilc]
  try simp only [y47, Nat.zero_add]
  refine ⟨_, _, _, H7.cell (off := 1) rfl rfl, _, H7.m3.cell (off := 2) rfl rfl, ?_⟩
  have H8 := H7.m1
  refine bytes_tailG y33 (L := own a7 o.length c7 y15 1 (nV o) :: pt g y82 [P_ r, .slice a7 o.length c7, .int .i64 (most : Int)] :: Rr r (F ++ x) p :: pt s y99 [.int .i64 (most : Nat), .slice a5 (F ++ x).length c5, .int .i64 (t : Nat), .int .i64 e, .int .i64 (at2 : Nat)] :: own a5 (F ++ x).length c5 y15 1 (nV (F ++ x)) :: L) (fun h H => H.rd) rfl H8.own_le (own_none0 H8) (by omega) fun a2 c2 g2 hn2 _ _ => ⟨_, _, _, rfl, ?_⟩
  refine CloneB_hs g2 (by simp) hn2 (by omega) H8 fun h9 a9 c9 hn9 H9 => ⟨_, _, _, rfl, ?_⟩
  refine ⟨_, _, _, H9.m2.cell (off := 1) rfl rfl, ?_⟩
  refine H9.m4.sto (off := 2) (by simp) fun h10 H10 => ?_
  rw [ht] at hn9 H10 ⊢
  refine kok o (by rcases hz with ⟨hz, rfl⟩ | ⟨_, hz, _⟩; exact Or.inr hz; exact Or.inl ⟨_, hz⟩) pre h10 a9 _ c9 rfl hn9 ?_
  refine (Ist_iff.2 ⟨a5, c5, o.length, e, at2, ⟨hFx, hlen, h3, hf7.2.1, ?_⟩, H10.sel 6 [0, 5, 1] (by decide)⟩).m1
  unfold Ifact
  rcases hz with ⟨hz, rfl⟩ | ⟨rfl, hz, rfl⟩ <;> rw [hz]
  ·exact ⟨rfl, by decide, fun _ => rfl⟩
  ·exact ⟨rfl, rfl, rfl⟩
 rcases hz : infl (F ++ x) most with ⟨u, p, o⟩ | ⟨e, o⟩
 ·refine fun h7 H7 => ⟨_, rfl, _, _, rfl, ?_⟩
  try dsimp only [nilc]
  try simp only [y47, Nat.zero_add]
  refine H7.m1.sto (off := 3) (by simp) fun h8 H8 => y5 rfl (z249.J1_of (y5 rfl (y10 rfl ?_)))
  obtain ⟨a9, c9, hf9, H9⟩ := y101.1 H8.m1
  try dsimp only [nilc]
  refine ⟨_, H9.cell (off := 0) rfl rfl, Gone_hs H9.m2 ⟨_, rfl, ?_⟩⟩
  have hg := infl_gone hz
  try simp only [y47, Nat.zero_add]
  rw [show IntKind.i64.wrap ((p : Int) + 7) = ((p + 7 : Nat) : Int) by rw [wz (by omega) (by omega)]; omega]
  have : Int.tdiv ((p + 7 : Nat) : Int) 8 = (((p + 7) / 8 : Nat) : Int) := rfl
  rw [this, wz (by omega) (by omega)]
  refine H8.sto (off := 4) (by simp) fun h10 H10 => ?_
  exact fin o 0 ((p + 7) / 8) (Or.inr ⟨rfl, hz, rfl⟩) H10.m1
 ·intro he h7 p7 H7
  refine ⟨_, rfl, _, _, rfl, ?_⟩
  try dsimp only [nilc]
  try simp only [y47, Nat.zero_add]
  refine H7.m1.sto (off := 3) (by simp) fun h8 H8 => y10 (bne_iff_ne.2 he) ?_
  by_cases e55 : e = 55
  ·subst e55
   refine z249.J1_of (y5 rfl (y5 rfl ?_))
   exact fin o 55 at_ (Or.inl ⟨hz, rfl⟩) H8.m1
  ·refine z249.J1_of (y10 (bne_iff_ne.2 e55) (kbad e o hz he e55 h8 ?_))
   refine Ist_iff.2 ⟨a5, c5, t, e, at_, ⟨hFx, hlen, h3, h4, ?_⟩, H8.sel 3 [0, 2] (by decide)⟩
   unfold Ifact; rw [hz]; exact ⟨rfl, he, fun h => absurd h e55⟩
end Go.Proofs.YtmkjmmpldepknaaDoor

set_option maxRecDepth 20000
namespace Go.Proofs.YtmkjmmpldepknaaDoor
open Go Go.HW Go.HW.Inf Go.HW.Pz Go.HW.Can
variable {h : Heap} {L : List Assn} {Q : Value → Heap → Prop} {a : OA} {n c : Nat}
def lg (x : Nat) : Nat := if x = 0 then 0 else Nat.log2 x + 1
def lenTab : ByteArray := ⟨#[0, 1, 2, 2, 3, 3, 3, 3, 4, 4, 4, 4, 4, 4, 4, 4, 5, 5, 5, 5, 5, 5, 5, 5, 5, 5, 5, 5, 5, 5, 5, 5, 6, 6, 6, 6, 6, 6, 6, 6, 6, 6, 6, 6, 6, 6, 6, 6, 6, 6, 6, 6, 6, 6, 6, 6, 6, 6, 6, 6, 6, 6, 6, 6, 7, 7, 7, 7, 7, 7, 7, 7, 7, 7, 7, 7, 7, 7, 7, 7, 7, 7, 7, 7, 7, 7, 7, 7, 7, 7, 7, 7, 7, 7, 7, 7, 7, 7, 7, 7, 7, 7, 7, 7, 7, 7, 7, 7, 7, 7, 7, 7, 7, 7, 7, 7, 7, 7, 7, 7, 7, 7, 7, 7, 7, 7, 7, 7, 8, 8, 8, 8, 8, 8, 8, 8, 8, 8, 8, 8, 8, 8, 8, 8, 8, 8, 8, 8, 8, 8, 8, 8, 8, 8, 8, 8, 8, 8, 8, 8, 8, 8, 8, 8, 8, 8, 8, 8, 8, 8, 8, 8, 8, 8, 8, 8, 8, 8, 8, 8, 8, 8, 8, 8, 8, 8, 8, 8, 8, 8, 8, 8, 8, 8, 8, 8, 8, 8, 8, 8, 8, 8, 8, 8, 8, 8, 8, 8, 8, 8, 8, 8, 8, 8, 8, 8, 8, 8, 8, 8, 8, 8, 8, 8, 8, 8, 8, 8, 8, 8, 8, 8, 8, 8, 8, 8, 8, 8, 8, 8, 8, 8, 8, 8, 8, 8, 8, 8, 8, 8, 8, 8, 8, 8, 8, 8]⟩
theorem lenTab_at : ∀ i : Fin 256, (sb lenTab).getD i.1 0 = lg i.1 := by decide +kernel
theorem lenTab_size : lenTab.size = 256 := by decide +kernel
theorem lg_up {x : Nat} (h : 256 ≤ x) : 8 + lg (x / 256) = lg x := by
 have h1 : x / 256 ≠ 0 := by omega
 unfold lg
 rw [if_neg h1, if_neg (by omega)]
 have a1 := (Nat.le_log2 h1).1 (Nat.le_refl (Nat.log2 (x / 256)))
 have a2 := (Nat.log2_lt h1).1 (Nat.lt_succ_self (Nat.log2 (x / 256)))
 generalize Nat.log2 (x / 256) = k at *
 have b1 : k + 8 ≤ Nat.log2 x := (Nat.le_log2 (by omega)).2 (by rw [Nat.pow_add]; omega)
 have b2 : Nat.log2 x < k + 9 := (Nat.log2_lt (by omega)).2 (by rw [show k + 9 = (k + 1) + 8 by omega, Nat.pow_add]; omega)
 omega
theorem Len_hs {x : Nat} (hx : x < 65536) (k : Q (.int .i64 (lg x : Nat)) h) : SpecH PP z314 [.int .u64 (x : Nat)] h Q := by
 have fin : ∀ {x m : Nat}, x < 256 → m ≤ 64 → Q (.int .i64 (m + lg x : Nat)) h → z317.J3 (x : Nat) (m : Nat) (fun v h1 => ∃ (t7 : Int), v = (.int .i64 t7) ∧ Q (.int .i64 t7) h1) h := by
  intro x m hx hm k
  refine z317.J3_of ?_
  try dsimp only
  rw [y160 hx]
  refine hwp_sidx (s := lenTab) U_string (by rw [lenTab_size]; exact hx) ⟨_, rfl, _, rfl, ?_⟩
  have e : (sb lenTab)[x]'(by rw [sb_len, lenTab_size]; exact hx) = lg x := by
   rw [← lenTab_at ⟨x, hx⟩]
   simp [sb_len, lenTab_size, hx]
  rw [e]
  have : lg x ≤ 9 := by
   unfold lg; split
   ·omega
   ·have := (Nat.log2_lt (n := x) (k := 8) (by assumption)).2 (by omega)
    omega
  rw [wz (x := ((lg x : Nat) : Int)) (by omega) (by omega), wz (by omega) (by omega)]
  rw [← Int.natCast_add]; exact k
 refine z313.door (z317.door (y5 (decide_eq_false (by omega)) (z317.J1_of (y5 (decide_eq_false (by omega)) (z317.J2_of ((y20 _ _ _).2 ⟨fun e => ?_, fun e => ?_⟩))))))
 ·have e := of_decide_eq_true e
  rw [← lg_up (by omega)] at k
  try dsimp only
  rw [show sShr .u64 (x : Int) 8 = ((x / 256 : Nat) : Int) from shr_u64 (m := 8) (by omega)]
  exact fin (m := 8) (by omega) (by omega) k
 ·have e := of_decide_eq_false e
  exact fin (m := 0) (by omega) (by omega) (by rw [Nat.zero_add]; exact k)
theorem Len_pow {x j : Nat} (h1 : 2 ^ j ≤ x) (h2 : x < 65536) : j ≤ Nat.log2 x ∧ Nat.log2 x < 16 ∧ lg x = Nat.log2 x + 1 ∧ 2 ^ (Nat.log2 x - j) ≤ 65536 := by
 have hp := Nat.pow_pos (n := j) (show 0 < 2 by decide)
 have hx : x ≠ 0 := by omega
 have a := (Nat.log2_lt (k := 16) hx).2 (by omega)
 refine ⟨(Nat.le_log2 hx).2 h1, a, by unfold lg; rw [if_neg hx], Nat.le_trans (Nat.pow_le_pow_right (by decide) (show Nat.log2 x - j ≤ 16 by omega)) (by decide)⟩
theorem length_hs {n : Nat} (h3 : 3 ≤ n) (h258 : n ≤ 258) (k : Q (.tuple #[.int .i64 ((lenS n).1 : Nat), .int .u32 ((lenS n).2.1 : Nat), .int .i64 ((lenS n).2.2 : Nat)]) h) : SpecH PP z224 [.int .i64 (n : Nat)] h Q := by
 unfold lenS at k
 refine z223.door ((y20 _ _ _).2 ⟨fun e => ?_, fun e => (y20 _ _ _).2 ⟨fun e2 => ?_, fun e2 => ?_⟩⟩)
 ·have e := beq_iff_eq.1 e
  rw [if_pos (by omega)] at k; exact k
 ·have e := beq_eq_false_iff_ne.1 e
  have e2 := of_decide_eq_true e2
  rw [if_neg (by omega), if_pos (by omega)] at k
  try dsimp only
  rw [wz (by omega) (by omega)]; exact k
 have e := beq_eq_false_iff_ne.1 e
 have e2 := of_decide_eq_false e2
 rw [if_neg (by omega), if_neg (by omega)] at k
 try dsimp only
 rw [show IntKind.i64.wrap ((n : Int) - 3) = ((n - 3 : Nat) : Int) by rw [wz (by omega) (by omega)]; omega, y113 (by omega)]
 refine Len_hs (by omega) ⟨_, rfl, ?_⟩
 obtain ⟨a1, a2, a3, a4⟩ := Len_pow (x := n - 3) (j := 3) (by omega) (by omega)
 obtain ⟨_, _, _, a5⟩ := Len_pow (x := n - 3) (j := 2) (by omega) (by omega)
 try dsimp only
 rw [a3]
 generalize hm : n - 3 = m at *
 have e1 : IntKind.i64.wrap (((Nat.log2 m + 1 : Nat) : Int) - 3) = ((Nat.log2 m - 2 : Nat) : Int) := by rw [wz (by omega) (by omega)]; omega
 rw [e1]
 generalize hj : Nat.log2 m - 2 = j at *
 have hd : m / 2 ^ j ≤ m := Nat.div_le_self _ _
 have hp : 0 < 2 ^ j := Nat.pow_pos (by decide)
 have hq : 4 ≤ m / 2 ^ j := by
  refine (Nat.le_div_iff_mul_le hp).2 ?_
  have := (Nat.le_log2 (n := m) (k := Nat.log2 m) (by omega)).1 (Nat.le_refl _)
  rw [show Nat.log2 m = 2 + j by omega, Nat.pow_add] at this
  exact this
 rw [wz (x := 4 * (j : Int)) (by omega) (by omega), wz (x := 261 + 4 * (j : Int)) (by omega) (by omega), shr_i64 (by omega), wz (x := 261 + 4 * (j : Int) + ((m / 2 ^ j : Nat) : Int)) (by omega) (by omega), wz (x := 261 + 4 * (j : Int) + ((m / 2 ^ j : Nat) : Int) - 4) (by omega) (by omega)]
 refine y10 (decide_eq_true (by omega)) (y10 (decide_eq_true (by omega)) ?_)
 have e6 := shl_i64 (a := 1) (m := j) (by omega) (by omega)
 rw [Nat.one_mul] at e6
 rw [show sShl .i64 1 (j : Int) = ((2 ^ j : Nat) : Int) from e6]
 rw [show IntKind.i64.wrap (((2 ^ j : Nat) : Int) - 1) = ((2 ^ j - 1 : Nat) : Int) by rw [wz (by omega) (by omega)]; omega, and_i64 (by omega) (by omega), and_mask, y124 (by have := Nat.mod_lt m hp; omega)]
 rw [show (261 + 4 * (j : Int) + ((m / 2 ^ j : Nat) : Int) - 4) = ((261 + 4 * j + m / 2 ^ j - 4 : Nat) : Int) by omega]
 exact k
theorem distance_hs {d : Nat} (h1 : 1 ≤ d) (h2 : d ≤ 32768) (k : Q (.tuple #[.int .i64 ((distS d).1 : Nat), .int .u32 ((distS d).2.1 : Nat), .int .i64 ((distS d).2.2 : Nat)]) h) : SpecH PP z220 [.int .i64 (d : Nat)] h Q := by
 unfold distS at k
 have e0 : IntKind.i64.wrap ((d : Int) - 1) = ((d - 1 : Nat) : Int) := by rw [wz (by omega) (by omega)]; omega
 refine z219.door ?_
 try dsimp only
 rw [e0]
 refine (y20 _ _ _).2 ⟨fun e => ?_, fun e2 => ?_⟩
 ·have e := of_decide_eq_true e
  rw [if_pos (by omega)] at k; exact k
 have e2 := of_decide_eq_false e2
 rw [if_neg (by omega)] at k
 rw [y113 (by omega)]
 refine Len_hs (by omega) ⟨_, rfl, ?_⟩
 obtain ⟨a1, a2, a3, a4⟩ := Len_pow (x := d - 1) (j := 2) (by omega) (by omega)
 obtain ⟨_, _, _, a5⟩ := Len_pow (x := d - 1) (j := 1) (by omega) (by omega)
 rw [a3]
 generalize hm : d - 1 = m at *
 have e1 : IntKind.i64.wrap (((Nat.log2 m + 1 : Nat) : Int) - 2) = ((Nat.log2 m - 1 : Nat) : Int) := by rw [wz (by omega) (by omega)]; omega
 rw [e1]
 generalize hj : Nat.log2 m - 1 = j at *
 have hd : m / 2 ^ j ≤ m := Nat.div_le_self _ _
 have hp : 0 < 2 ^ j := Nat.pow_pos (by decide)
 have hq : 2 ≤ m / 2 ^ j := by
  refine (Nat.le_div_iff_mul_le hp).2 ?_
  have := (Nat.le_log2 (n := m) (k := Nat.log2 m) (by omega)).1 (Nat.le_refl _)
  rw [show Nat.log2 m = 1 + j by omega, Nat.pow_add] at this
  exact this
 rw [wz (x := 2 * (j : Int)) (by omega) (by omega), wz (x := 2 + 2 * (j : Int)) (by omega) (by omega), shr_i64 (by omega), wz (x := 2 + 2 * (j : Int) + ((m / 2 ^ j : Nat) : Int)) (by omega) (by omega), wz (x := 2 + 2 * (j : Int) + ((m / 2 ^ j : Nat) : Int) - 2) (by omega) (by omega)]
 refine y10 (decide_eq_true (by omega)) (y10 (decide_eq_true (by omega)) ?_)
 have e6 := shl_i64 (a := 1) (m := j) (by omega) (by omega)
 rw [Nat.one_mul] at e6
 rw [show sShl .i64 1 (j : Int) = ((2 ^ j : Nat) : Int) from e6]
 rw [show IntKind.i64.wrap (((2 ^ j : Nat) : Int) - 1) = ((2 ^ j - 1 : Nat) : Int) by rw [wz (by omega) (by omega)]; omega, and_i64 (by omega) (by omega), and_mask, y124 (by have := Nat.mod_lt m hp; omega)]
 rw [show (2 + 2 * (j : Int) + ((m / 2 ^ j : Nat) : Int) - 2) = ((2 + 2 * j + m / 2 ^ j - 2 : Nat) : Int) by omega]
 exact k
theorem xor16 {n : Nat} (hn : n < 65536) : bXor .u16 IntKind.u16.max (n : Int) = ((65535 - n : Nat) : Int) := by
 rw [show IntKind.u16.max = ((65535 : Nat) : Int) from rfl, xor_u16 (by omega) (by omega)]
 congr 1
 apply Nat.eq_of_testBit_eq
 intro i
 rw [Nat.testBit_xor, show 65535 - n = 2 ^ 16 - (n + 1) by omega, Nat.testBit_two_pow_sub_succ (by omega), show (65535 : Nat) = 2 ^ 16 - 1 from rfl, Nat.testBit_two_pow_sub_one]
 by_cases hi : i < 16
 ·simp [hi]
 ·have : n.testBit i = false := Nat.testBit_lt_two_pow (Nat.lt_of_lt_of_le (show n < 2 ^ 16 by omega) (Nat.pow_le_pow_right (by decide) (by omega)))
  simp [hi, this]
theorem Stored_hs {D : List Nat} (g : Gv L a (nV D)) (hn : D.length = n) (hn0 : a = none → n = 0) (h16 : n ≤ 16384) (H : Hs h L)
  (k : ∀ h' a' c', Hs h' (own a' (n + 5) c' y15 1 (nV (storB 1 D)) :: L) → Q (.tuple #[.slice a' (n + 5) c', .int .i64 0]) h') : SpecH PP z214 [.slice a n c] h Q := by
 refine z213.door (y5 (decide_eq_false (by omega)) ?_)
 try dsimp only
 rw [wrap_u16_id (by omega), xor16 (by omega)]
 rw [show sShr .u16 (n : Int) 8 = ((n / 256 : Nat) : Int) from shr_u16 (m := 8) (by omega), show sShr .u16 ((65535 - n : Nat) : Int) 8 = (((65535 - n) / 256 : Nat) : Int) from shr_u16 (m := 8) (by omega)]
 rw [wrap_u8, y160 (a := n / 256) (by omega), wrap_u8, y160 (a := (65535 - n) / 256) (by omega)]
 have H1 := H.new (t := y15) (cs := ([_, _, _, _, _] : List Value).toArray) (xs := nV [1, n % 256, n / 256, (65535 - n) % 256, (65535 - n) / 256]) rfl
 have H2 : Hs _ (own (some ⟨Array.size h, 0, none⟩) 5 5 y15 1 (nV [1, n % 256, n / 256, (65535 - n) % 256, (65535 - n) / 256]) :: L) := H1.pt_own 0 rfl rfl (Nat.le_refl _) (Nat.le_refl _)
 refine H2.app_sl y33 (g.cons _ H2) (by rw [nV_len]; omega) hn0 (nV_one _) (fun h3 a3 c3 H3 => ⟨_, _, _, rfl, ?_⟩) (by omega) (by omega)
 rw [← nV_app, Nat.add_comm 5 n] at H3
 rw [Nat.add_comm 5 n]
 refine k h3 a3 c3 ?_
 unfold storB
 rw [hn]; exact H3
end Go.Proofs.YtmkjmmpldepknaaDoor

set_option maxRecDepth 20000
namespace Go.Proofs.YtmkjmmpldepknaaDoor
open Go Go.HW Go.HW.Inf Go.HW.Pz Go.HW.Can
def tokB (lit dist : List Nat) (t : Tok) : Bz := if t.len = 0 then cd lit t.lit else
 (cd lit (lenS t.len.toNat).1).cat (Bz.cat ⟨(lenS t.len.toNat).2.1, (lenS t.len.toNat).2.2⟩ ((cd dist (distS t.dist.toNat).1).cat ⟨(distS t.dist.toNat).2.1, (distS t.dist.toNat).2.2⟩))
def toksB (lit dist : List Nat) : List Tok → Bz
 | [] => cd lit 256
 | t :: r => (tokB lit dist t).cat (toksB lit dist r)
def Has (lit dist : List Nat) (t : Tok) : Prop := if t.len = 0 then lit.getD t.lit 0 ≠ 0 else lit.getD (lenS t.len.toNat).1 0 ≠ 0 ∧ dist.getD (distS t.dist.toNat).1 0 ≠ 0
def Fit (t : Tok) : Prop := t.lit < 256 ∧ (t.len = 0 ∨ 3 ≤ t.len ∧ t.len ≤ 258 ∧ 1 ≤ t.dist ∧ t.dist ≤ 32768)
theorem Fit.of {t : Tok} {s : Nat} (hw : t.lit < 256) (h : may t s = true) : Fit t := ⟨hw, by rcases may_len h with h | h; exact Or.inl h.1; exact Or.inr ⟨h.2.1, h.2.2.1, h.2.2.2.1, h.2.2.2.2.1⟩⟩
theorem y105 {l : List Nat} {i : Nat} (h : l.getD i 0 ≠ 0) : i < l.length := by
 rcases Nat.lt_or_ge i l.length with h1 | h1
 ·exact h1
 ·exact absurd (by simp [List.getD_eq_getElem?_getD, List.getElem?_eq_none h1]) h
theorem longest_ne {l : List Nat} {i : Nat} (h : l.getD i 0 ≠ 0) : longest l ≠ 0 := by
 have := longest_ge (y107 (y105 h)); omega
theorem tokB_wf {lit dist : List Nat} {t : Tok} (ht : Fit t) : (tokB lit dist t).wf := by
 unfold tokB
 split
 ·exact cd_wf _ _
 ·rcases ht with ⟨_, h | ⟨h1, h2, h3, h4⟩⟩
  ·contradiction
  ·obtain ⟨_, _, a1, _, _⟩ := y162 (n := t.len.toNat) (by omega) (by omega) (o := [])
   obtain ⟨_, b1, _, _⟩ := y153 (d := t.dist.toNat) (by omega) (by omega) (o := [])
   exact Bz.wf_cat (cd_wf _ _) (Bz.wf_cat a1 (Bz.wf_cat (cd_wf _ _) b1))
theorem toksB_wf {lit dist : List Nat} : ∀ {l : List Tok}, (∀ t ∈ l, Fit t) → (toksB lit dist l).wf
 | [], _ => cd_wf _ _
 | t :: r, h => Bz.wf_cat (tokB_wf (h t (by simp))) (toksB_wf fun t ht => h t (by simp [ht]))
theorem cd_k {l : List Nat} (h15 : ∀ x ∈ l, x ≤ 15) (i : Nat) : (cd l i).k ≤ 15 := by
 show l.getD i 0 ≤ 15
 rcases Nat.lt_or_ge i l.length with h1 | h1
 ·exact h15 _ (y107 h1)
 ·simp [List.getD_eq_getElem?_getD, List.getElem?_eq_none h1]
theorem tokB_k {lit dist : List Nat} {t : Tok} (hl : ∀ x ∈ lit, x ≤ 15) (hd : ∀ x ∈ dist, x ≤ 15) (ht : Fit t) : (tokB lit dist t).k ≤ 48 := by
 have c1 := cd_k hl
 have c2 := cd_k hd
 unfold tokB
 split
 ·have := c1 t.lit; omega
 ·rcases ht with ⟨_, h | ⟨h1, h2, h3, h4⟩⟩
  ·contradiction
  ·obtain ⟨_, _, _, a1, _⟩ := y162 (n := t.len.toNat) (by omega) (by omega) (o := [])
   obtain ⟨_, _, b1, _⟩ := y153 (d := t.dist.toNat) (by omega) (by omega) (o := [])
   have := c1 (lenS t.len.toNat).1
   have := c2 (distS t.dist.toNat).1
   simp only [Bz.cat]
   omega
theorem toksB_k {lit dist : List Nat} (hl : ∀ x ∈ lit, x ≤ 15) (hd : ∀ x ∈ dist, x ≤ 15) : ∀ {l : List Tok}, (∀ t ∈ l, Fit t) → (toksB lit dist l).k ≤ 48 * l.length + 15
 | [], _ => by have := cd_k hl 256; simp only [toksB, List.length_nil]; omega
 | t :: r, h => by
  have a := tokB_k hl hd (h t (by simp))
  have b := toksB_k hl hd (l := r) fun t ht => h t (by simp [ht])
  simp only [toksB, Bz.cat, List.length_cons] at *
  omega
theorem cpP_tells {far : Nat} : ∀ (n : Nat) (o : List Nat), Tells (cpP far n) .nil () o (cp far n o)
 | 0, o => Tells.ret _ _
 | n + 1, o => by
  refine Tells.get (Tells.lay (cpP_tells n _) ?_)
  rw [cp_len]; simp
theorem copy_tells {lit dist : List Nat} (hk : kr dist ≤ 2 ^ 15) (h15 : ∀ x ∈ dist, x ≤ 15) {t : Tok} {o : List Nat} (h3 : 3 ≤ t.len) (h258 : t.len ≤ 258) (d1 : 1 ≤ t.dist) (d2 : t.dist ≤ 32768) (ho : t.dist ≤ (o.length : Int)) (hd : dist.getD (distS t.dist.toNat).1 0 ≠ 0) :
  Tells (copyP dist (lenS t.len.toNat).1) (Bz.cat ⟨(lenS t.len.toNat).2.1, (lenS t.len.toNat).2.2⟩ ((cd dist (distS t.dist.toNat).1).cat ⟨(distS t.dist.toNat).2.1, (distS t.dist.toNat).2.2⟩)) () o (cp t.dist.toNat t.len.toNat o) := by
 obtain ⟨a1, a2, a3, a4, a5⟩ := y162 (n := t.len.toNat) (by omega) (by omega) (o := o)
 obtain ⟨b1, b2, b3, b4⟩ := y153 (d := t.dist.toNat) (by omega) (by omega) (o := o)
 have hle : o.length ≤ (cp t.dist.toNat t.len.toNat o).length := by rw [cp_len]; omega
 unfold copyP
 rw [if_neg (by omega)]
 refine Tells.bind a3 a5 ?_ hle
 rw [if_neg (longest_ne hd)]
 refine Tells.bind (cd_wf _ _) (next_tells hk (y105 hd) hd h15) ?_ hle
 rw [if_neg (by omega)]
 have e : Bz.mk (distS t.dist.toNat).2.1 (distS t.dist.toNat).2.2 = (Bz.mk (distS t.dist.toNat).2.1 (distS t.dist.toNat).2.2).cat .nil := (Bz.cat_nil _).symm
 rw [e]
 refine Tells.bind b2 b4 (Tells.get ?_) hle
 rw [if_neg (by omega)]
 exact cpP_tells _ _
theorem ex_cnt {lim : Nat} : ∀ {l : List Tok} {out r : List Nat}, exGo lim l out = (0, r) → out.length + l.length ≤ r.length
 | [], out, r, h => by simp only [exGo, Prod.mk.injEq] at h; rw [h.2]; simp
 | t :: l, out, r, h => by
  obtain ⟨h1, _, h3⟩ := ex_ok h
  have := ex_cnt h3
  have := step_len h1
  have := one_le h1
  simp only [List.length_cons]
  omega
theorem toks_tells {lit dist : List Nat} (hkl : kr lit ≤ 2 ^ 15) (hl15 : ∀ x ∈ lit, x ≤ 15) (hkd : kr dist ≤ 2 ^ 15) (hd15 : ∀ x ∈ dist, x ≤ 15) (h256 : lit.getD 256 0 ≠ 0) {lim : Nat} {a : List Nat} :
  ∀ (l : List Tok) (f : Nat) (out r : List Nat), l.length < f → (∀ t ∈ l, t.lit < 256 ∧ Has lit dist t) → exGo lim l out = (0, r) → Tells (symP lit dist f) (toksB lit dist l) () (a ++ out) (a ++ r)
 | l, 0, _, _, h, _, _ => by omega
 | [], f + 1, out, r, _, _, h => by
  simp only [exGo, Prod.mk.injEq, true_and] at h
  subst h
  have e : toksB lit dist [] = (cd lit 256).cat .nil := (Bz.cat_nil _).symm
  rw [e]
  simp only [symP]
  refine Tells.bind (cd_wf _ _) (next_tells hkl (y105 h256) h256 hl15) ?_ (Nat.le_refl _)
  rw [if_pos rfl]; exact Tells.ret _ _
 | t :: l, f + 1, out, r, hf, hh, h => by
  obtain ⟨hm, hlim, hx⟩ := ex_ok h
  obtain ⟨ht, hc⟩ := hh t (by simp)
  have ih := toks_tells hkl hl15 hkd hd15 h256 (lim := lim) (a := a) l f (step t out) r (by simp at hf; omega) (fun t ht => hh t (by simp [ht])) hx
  have hge := ex_ge hx
  have hsl := step_len hm
  have h1 := one_le hm
  simp only [symP, toksB]
  unfold Has at hc
  unfold tokB
  rcases may_len hm with ⟨hl0, hd0⟩ | ⟨hl0, m1, m2, m3, m4, m5⟩
  ·rw [if_pos hl0] at hc ⊢
   refine Tells.bind (cd_wf _ _) (next_tells hkl (y105 hc) hc hl15) ?_ (by simp; omega)
   rw [if_neg (by omega), if_pos ht]
   refine Tells.lay ?_ (by simp; omega)
   have e : step t out = out ++ [t.lit] := by unfold step; rw [if_pos hl0, hl0]; rfl
   rw [e] at ih
   rw [List.append_assoc]; exact ih
  ·have hne : t.len ≠ 0 := by omega
   rw [if_neg hne] at hc ⊢
   obtain ⟨a1, a2, a3, a4, a5⟩ := y162 (n := t.len.toNat) (by omega) (by omega) (o := out)
   obtain ⟨b1, b2, b3, b4⟩ := y153 (d := t.dist.toNat) (by omega) (by omega) (o := out)
   rw [Bz.cat_assoc]
   refine Tells.bind (cd_wf _ _) (next_tells hkl (y105 hc.1) hc.1 hl15) ?_ (by simp; omega)
   rw [if_neg (by omega), if_neg (by omega)]
   have e : cp t.dist.toNat t.len.toNat (a ++ out) = a ++ step t out := by
    unfold step; rw [if_neg hne]; exact cp_shift a _ _ (by omega) (by omega)
   have hcp := copy_tells (lit := lit) hkd hd15 (t := t) (o := a ++ out) m1 m2 m3 m4 (by simp; omega) hc.2
   rw [e] at hcp
   exact Tells.bind (Bz.wf_cat a3 (Bz.wf_cat (cd_wf _ _) b2)) hcp ih (by simp; omega)
theorem dyn_final {lit dist : List Nat} {b : Bz} {l : List Tok} {lim : Nat} {r : List Nat} (hb : b.wf) (ht : ∀ o, Tells lensP b (lit, dist) o o) (hok : headOk lit dist = true) (hl15 : ∀ x ∈ lit, x ≤ 15) (hkd : kr dist ≤ 2 ^ 15) (hd15 : ∀ x ∈ dist, x ≤ 15)
  (hh : ∀ t ∈ l, Fit t ∧ Has lit dist t) (hn : l.length < 1000000) (hx : exGo lim l [] = (0, r)) :
  Final (dig (Bz.cat ⟨1, 1⟩ (Bz.cat ⟨2, 2⟩ (b.cat (toksB lit dist l)))).x (((Bz.cat ⟨1, 1⟩ (Bz.cat ⟨2, 2⟩ (b.cat (toksB lit dist l)))).k + 7) / 8)) r := by
 obtain ⟨k1, k2, k3⟩ := of_decide_eq_true hok
 have wt := toksB_wf (lit := lit) (dist := dist) (fun t ht => (hh t ht).1)
 refine final_tells (by decide) (Bz.wf_cat hb wt) fun o => ?_
 unfold bodyP
 rw [if_neg (by decide), if_neg (by decide), if_pos rfl]
 have hhead : Tells headP b (lit, dist) o o := by
  have := Tells.bind (f := fun r : List Nat × List Nat => if headOk r.1 r.2 = true then Pz.ret r else Pz.err 52) (c := .nil) hb (ht o) (by rw [if_pos hok]; exact Tells.ret _ _) (Nat.le_refl _)
  rwa [Bz.cat_nil] at this
 refine Tells.bind hb hhead ?_ (by simp)
 have := toks_tells (chk_kr k2) hl15 hkd hd15 k1 (a := o) l FF [] r (by unfold FF; omega) (fun t ht => ⟨(hh t ht).1.1, (hh t ht).2⟩) hx
 rwa [List.append_nil] at this
theorem fix_has {t : Tok} (h : Fit t) : Has fixLit fixDist t := by
 have all : ∀ i : Fin 288, fixLit.getD i.1 0 ≠ 0 := by decide +kernel
 have alld : ∀ i : Fin 32, fixDist.getD i.1 0 ≠ 0 := by decide +kernel
 unfold Has
 rcases h with ⟨h0, h | ⟨h1, h2, h3, h4⟩⟩
 ·rw [if_pos h]; exact all ⟨t.lit, by omega⟩
 ·obtain ⟨a1, a2, a3, a4, a5⟩ := y162 (n := t.len.toNat) (by omega) (by omega) (o := [])
  obtain ⟨b1, b2, b3, b4⟩ := y153 (d := t.dist.toNat) (by omega) (by omega) (o := [])
  rw [if_neg (by omega)]
  exact ⟨all ⟨(lenS t.len.toNat).1, by omega⟩, alld ⟨(distS t.dist.toNat).1, by omega⟩⟩
theorem fix_final {l : List Tok} {lim : Nat} {r : List Nat} (hh : ∀ t ∈ l, Fit t) (hn : l.length < 1000000) (hx : exGo lim l [] = (0, r)) :
  Final (dig (Bz.cat ⟨1, 1⟩ (Bz.cat ⟨1, 2⟩ (toksB fixLit fixDist l))).x (((Bz.cat ⟨1, 1⟩ (Bz.cat ⟨1, 2⟩ (toksB fixLit fixDist l))).k + 7) / 8)) r := by
 refine final_tells (by decide) (toksB_wf hh) fun o => ?_
 unfold bodyP
 rw [if_neg (by decide), if_pos rfl]
 have := toks_tells (chk_kr fixLit_chk) fixLit_le (chk_kr fixDist_chk) fixDist_le (by decide +kernel) (a := o) l FF [] r (by unfold FF; omega) (fun t ht => ⟨(hh t ht).1, fix_has (hh t ht)⟩) hx
 rwa [List.append_nil] at this
end Go.Proofs.YtmkjmmpldepknaaDoor

set_option maxRecDepth 20000
namespace Go.Proofs.YtmkjmmpldepknaaDoor
open Go Go.HW Go.HW.Inf Go.HW.Pz Go.HW.Can
variable {h : Heap} {L : List Assn} {Q : Value → Heap → Prop} {a : OA} {n c : Nat}
theorem toksB_cons (lit dist : List Nat) (t : Tok) (r : List Tok) : toksB lit dist (t :: r) = (tokB lit dist t).cat (toksB lit dist r) := rfl
theorem lay_go {w la dd da2 ta : OA} {b wr : Nat} {lc dc dn2 c2 dn tn tc : Nat} {lit dist : List Nat} {l : List Tok} {B : Bz} {M : List Assn} (hw : w = some ⟨wr, 0, none⟩) (gt : Gv M ta (l.flatMap tokV)) (hn : l.length = tn) (ht : tn ≤ 1000000) (gl : Gv M la (nI lit)) (gd : Gv M dd (nI dist)) (hdn : dist.length = dn)
  (hl2 : lit.length ≤ 288) (hd2 : dist.length ≤ 288) (hl15 : ∀ x ∈ lit, x ≤ 15) (hd15 : ∀ x ∈ dist, x ≤ 15) (hkd : chk dist = 0 ∨ longest dist = 0) (gU : Gv M (some ⟨b, 0, none⟩) (nU (codesL lit lit.length))) (gD : chk dist = 0 → Gv M da2 (nU (codesL dist dist.length)) ∧ dn2 = dist.length)
  (hh : ∀ t ∈ l, Fit t ∧ Has lit dist t) (h256 : lit.getD 256 0 ≠ 0) (hB : B.k ≤ 2 ^ 30) (k : ∀ h', Hs h' (Wb wr (B.cat (toksB lit dist l)) :: M) → Q (.tuple #[]) h') :
  ∀ (q i : Nat) {h : Heap} {C : Bz}, i + q = tn → C.cat (toksB lit dist (l.drop i)) = B.cat (toksB lit dist l) → C.k ≤ B.k + 48 * i → Hs h (Wb wr C :: M) →
   z221.L1 w la lit.length lc dd dn dc (some ⟨b, 0, none⟩) lit.length lit.length da2 dn2 c2 ta tn tc (tn : Nat) (i : Nat) (z221.K1 Q) h := by
 subst hw
 have cl : ∀ s, lit.getD s 0 ≠ 0 → (codesL lit lit.length).getD s 0 < 2 ^ lit.getD s 0 := fun s hs => by rw [y161 (y105 hs) hs]; exact cd_wf lit s
 have cdd : ∀ s, dist.getD s 0 ≠ 0 → (codesL dist dist.length).getD s 0 < 2 ^ dist.getD s 0 := fun s hs => by rw [y161 (y105 hs) hs]; exact cd_wf dist s
 have kl : ∀ s, lit.getD s 0 ≤ 15 := fun s => cd_k hl15 s
 have kd : ∀ s, dist.getD s 0 ≤ 15 := fun s => cd_k hd15 s
 have ul : (nU (codesL lit lit.length)).length = lit.length := by rw [nU_len]; simp [codesL]
 have ud : (nU (codesL dist dist.length)).length = dist.length := by rw [nU_len]; simp [codesL]
 have ul2 : (codesL lit lit.length).length = lit.length := by simp [codesL]
 have ud2 : (codesL dist dist.length).length = dist.length := by simp [codesL]
 intro q
 induction q with
 | zero =>
  intro i h C hi he hC H
  refine z221.L1_of (y5 (decide_eq_false (by omega)) (z221.L1_X0 ?_))
  rw [List.drop_of_length_le (by omega)] at he
  have hs := y105 h256
  refine idx (i := ((256 : Nat) : Int)) y152 (gU _ H.tl) (by omega) (by omega) (v := .int .u32 ((codesL lit lit.length).getD 256 0 : Nat)) (by rw [Int.toNat_natCast]; exact nU_get (by omega)) fun t1 ht1 => ⟨_, ht1, ?_⟩
  refine ixI y25 (i := 256) gl.cons rfl (by omega) H fun t2 ht2 => ⟨_, ht2, ?_⟩
  refine y115 H (by have := kl 256; omega) (cl 256 h256) (by have := kl 256; omega) fun h3 H3 => ⟨_, rfl, k h3 ?_⟩
  rw [← he]
  rw [y161 hs h256] at H3
  exact H3
 | succ q ih =>
  intro i h C hi he hC H
  have hil : i < l.length := by omega
  refine z221.L1_of (y10 (decide_eq_true (by omega)) ?_)
  rw [List.drop_eq_getElem_cons hil] at he
  refine idxf y157 (φ := tokV) (l := l) (x := l[i]) (gt _ H.tl) tokV_len (by omega) (by omega) (by omega) (by simp) fun t ht => ⟨_, _, _, ht, ?_⟩
  refine Hs.wrs (b := Array.size h) (xs := [.int .u8 0, .int .i64 0, .int .i64 0]) H.new (fun h3 H3 => ?_)
  generalize Array.size h = x at H3 ⊢
  obtain ⟨hf, hhas⟩ := hh _ (List.getElem_mem hil)
  generalize l[i] = t at H3 he hf hhas
  refine ⟨_, H3.cell (off := 1) rfl, ?_⟩
  rw [toksB_cons, ← Bz.cat_assoc] at he
  have hk48 := tokB_k hl15 hd15 hf
  have nx : ∀ {h : Heap}, Hs h (Wb wr (C.cat (tokB lit dist t)) :: pt x y38 (tokV t) :: M) → z221.J1 (some ⟨wr, 0, none⟩) la lit.length lc dd dn dc (some ⟨b, 0, none⟩) lit.length lit.length da2 dn2 c2 ta tn tc (tn : Nat) (i : Nat) (z221.K1 Q) h := by
   intro h H
   refine z221.J1_of ?_
   try dsimp only
   rw [inc (by omega)]
   exact ih (i + 1) (by omega) he (by simp only [Bz.cat]; omega) H.m1.tl
  unfold Has at hhas
  unfold tokB at nx
  rcases hf with ⟨hlit, hf⟩
  refine (y20 _ _ _).2 ⟨fun e => ?_, fun e => ?_⟩
  ·have e := beq_iff_eq.1 e
   rw [if_pos e] at hhas nx
   have hs := y105 hhas
   refine ⟨_, H3.cell (off := 0) rfl, ?_⟩
   refine idx y152 (gU _ H3.tl.tl) (by omega) (by omega) (v := .int .u32 ((codesL lit lit.length).getD t.lit 0 : Nat)) (by rw [Int.toNat_natCast]; exact nU_get (by omega)) fun t1 ht1 => ⟨_, ht1, ?_⟩
   refine ⟨_, H3.cell (off := 0) rfl, ?_⟩
   refine idx y25 (gl _ H3.tl.tl) (by omega) (by omega) (v := .int .i64 (lit.getD t.lit 0 : Nat)) (by rw [Int.toNat_natCast]; exact nI_get hs) fun t2 ht2 => ⟨_, ht2, ?_⟩
   refine y115 H3.m1 (by have := kl t.lit; omega) (cl _ hhas) (by have := kl t.lit; omega) fun h4 H4 => ⟨_, rfl, nx ?_⟩
   rw [y161 hs hhas] at H4
   exact H4
  ·have e := beq_eq_false_iff_ne.1 e
   rw [if_neg e] at hhas nx
   rcases hf with hf | ⟨f1, f2, f3, f4⟩
   ·exact absurd hf e
   obtain ⟨hhl, hhd⟩ := hhas
   obtain ⟨a1, a2, a3, a4, a5⟩ := y162 (n := t.len.toNat) (by omega) (by omega) (o := [])
   obtain ⟨b1, b2, b3, b4⟩ := y153 (d := t.dist.toNat) (by omega) (by omega) (o := [])
   have hs1 := y105 hhl
   have hs2 := y105 hhd
   have hck : chk dist = 0 := hkd.resolve_right (longest_ne hhd)
   obtain ⟨gE, rfl⟩ := gD hck
   refine ⟨t.len, H3.cell (off := 1) rfl, ?_⟩
   rw [show t.len = ((t.len.toNat : Nat) : Int) by omega]
   refine length_hs (by omega) (by omega) ⟨_, _, _, rfl, ?_⟩
   generalize hS : lenS t.len.toNat = S at *
   obtain ⟨s1, s2, s3⟩ := S
   dsimp only at *
   refine idx y152 (gU _ H3.tl.tl) (by omega) (by omega) (v := .int .u32 ((codesL lit lit.length).getD s1 0 : Nat)) (by rw [Int.toNat_natCast]; exact nU_get (by omega)) fun t1 ht1 => ⟨_, ht1, ?_⟩
   refine ixI y25 (i := s1) gl.cons.cons rfl (by omega) H3 fun t2 ht2 => ⟨_, ht2, ?_⟩
   refine y115 H3.m1 (by have := kl s1; omega) (cl _ hhl) (by have := kl s1; omega) fun h4 H4 => ⟨_, rfl, ?_⟩
   have := kl s1
   refine y115 H4 (by omega) a3 (by simp only [Bz.cat]; omega) fun h5 H5 => ⟨_, rfl, ?_⟩
   refine ⟨t.dist, H5.m1.cell (off := 2) rfl, ?_⟩
   rw [show t.dist = ((t.dist.toNat : Nat) : Int) by omega]
   refine distance_hs (by omega) (by omega) ⟨_, _, _, rfl, ?_⟩
   generalize hT : distS t.dist.toNat = T at *
   obtain ⟨d1, d2, d3⟩ := T
   dsimp only at *
   refine idx y152 (gE _ H5.tl.tl) (by omega) (by omega) (v := .int .u32 ((codesL dist dist.length).getD d1 0 : Nat)) (by rw [Int.toNat_natCast]; exact nU_get (by omega)) fun t3 ht3 => ⟨_, ht3, ?_⟩
   refine ixI y25 (i := d1) gd.cons.cons hdn (by omega) H5 fun t4 ht4 => ⟨_, ht4, ?_⟩
   have := kd d1
   refine y115 H5 (by omega) (cdd _ hhd) (by simp only [Bz.cat]; omega) fun h6 H6 => ⟨_, rfl, ?_⟩
   refine y115 H6 (by omega) b2 (by simp only [Bz.cat]; omega) fun h7 H7 => ⟨_, rfl, nx ?_⟩
   rw [y161 hs1 hhl, y161 hs2 hhd] at H7
   rw [Bz.cat_assoc, Bz.cat_assoc, Bz.cat_assoc] at H7
   exact H7
theorem lay_hs' {la dd ta : OA} {wr : Nat} {ln lc dc dn tn tc : Nat} {lit dist : List Nat} {l : List Tok} {B : Bz} (gt : Gv L ta (l.flatMap tokV)) (hn : l.length = tn) (ht : tn ≤ 1000000) (gl : Gv L la (nI lit)) (gd : Gv L dd (nI dist)) (hln : lit.length = ln) (hdn : dist.length = dn)
  (hl2 : lit.length ≤ 288) (hd1 : 1 ≤ dist.length) (hd2 : dist.length ≤ 288) (hl15 : ∀ x ∈ lit, x ≤ 15) (hd15 : ∀ x ∈ dist, x ≤ 15) (hkl : chk lit = 0) (hkd : chk dist = 0 ∨ longest dist = 0)
  (hh : ∀ t ∈ l, Fit t ∧ Has lit dist t) (h256 : lit.getD 256 0 ≠ 0) (hB : B.k ≤ 2 ^ 30) (H : Hs h (Wb wr B :: L)) (k : ∀ h', Hs h' (Wb wr (B.cat (toksB lit dist l)) :: L) → Q (.tuple #[]) h') :
  SpecH PP z222 [P_ wr, .slice ta tn tc, .slice la ln lc, .slice dd dn dc] h Q := by
 subst hln
 have hs := y105 h256
 refine z221.door (Codes_hs gl.cons rfl (by omega) hl2 hl15 hkl H fun h2 b H2 => ⟨_, _, _, _, rfl, ?_⟩)
 by_cases hck : chk dist = 0
 ·refine Codes_hs gd.cons.cons hdn (by omega) (by omega) hd15 hck H2 fun h3 b3 H3 => ⟨_, _, _, _, rfl, ?_⟩
  refine lay_go rfl gt.cons.cons hn ht gl.cons.cons gd.cons.cons hdn hl2 hd2 hl15 hd15 hkd (M := own (some ⟨b3, 0, none⟩) dn dn y150 1 (nU (codesL dist dist.length)) :: own (some ⟨b, 0, none⟩) lit.length lit.length y150 1 (nU (codesL lit lit.length)) :: L) (fun h H => (Hs.m1 H).rd) (fun _ => ⟨fun h H => H.rd, hdn.symm⟩) hh h256 hB (fun h' H' => k h' (H'.sel 3 [0] (by decide))) tn 0 (by omega) rfl (by omega) (H3.sel 3 [2, 0, 1] (by decide))
 ·refine Codes_bad gd.cons.cons hdn (by omega) (by omega) hd15 hck H2 ⟨_, _, _, _, rfl, ?_⟩
  refine lay_go rfl gt.cons hn ht gl.cons gd.cons hdn hl2 hd2 hl15 hd15 hkd (M := own (some ⟨b, 0, none⟩) lit.length lit.length y150 1 (nU (codesL lit lit.length)) :: L) (fun h H => H.rd) (fun h => absurd h hck) hh h256 hB (fun h' H' => k h' (H'.sel 2 [0] (by decide))) tn 0 (by omega) rfl (by omega) (H2.sel 2 [1, 0] (by decide))
end Go.Proofs.YtmkjmmpldepknaaDoor

set_option maxRecDepth 20000
namespace Go.Proofs.YtmkjmmpldepknaaDoor
open Go Go.HW Go.HW.Inf Go.HW.Pz Go.HW.Can Go.HW.PM
variable {h : Heap} {L : List Assn} {Q : Value → Heap → Prop} {a : OA} {n c : Nat}
theorem ck_fit : ∀ {l : List Tok} {s : Nat}, (∀ t ∈ l, t.lit < 256) → ckGo l s = 0 → ∀ t ∈ l, Fit t
 | t :: l, s, hw, h, u, hu => by
  rw [ckGo] at h
  split at h
  ·exact absurd h (by decide)
  ·split at h
   ·exact absurd h (by decide)
   ·rename_i hm _
    rcases List.mem_cons.1 hu with rfl | hu
    ·exact Fit.of (hw u (by simp)) (by simpa using hm)
    ·exact ck_fit (fun t ht => hw t (by simp [ht])) h u hu
theorem cp_pre (d : Nat) : ∀ (n : Nat) (out : List Nat), out <+: cp d n out
 | 0, out => List.prefix_refl _
 | n + 1, out => (List.prefix_append _ _).trans (cp_pre d n _)
theorem ex_pre {lim : Nat} : ∀ {l : List Tok} {out r : List Nat}, exGo lim l out = (0, r) → out <+: r
 | [], out, r, h => by simp only [exGo, Prod.mk.injEq] at h; rw [h.2]; exact List.prefix_refl _
 | t :: l, out, r, h => by
  obtain ⟨_, _, h3⟩ := ex_ok h
  refine List.IsPrefix.trans ?_ (ex_pre h3)
  unfold step
  split
  ·exact (List.prefix_append _ _).trans (cp_pre _ _ _)
  ·exact cp_pre _ _ _
theorem ex_lit {lim : Nat} : ∀ {l : List Tok} {out r : List Nat}, exGo lim l out = (0, r) → (∀ x ∈ r, x < 256) → ∀ t ∈ l, t.lit < 256
 | t :: l, out, r, h, hr, u, hu => by
  obtain ⟨h1, _, h3⟩ := ex_ok h
  rcases List.mem_cons.1 hu with rfl | hu
  ·rcases may_len h1 with ⟨h0, _⟩ | h0
   ·have hp := ex_pre h3
    unfold step at hp; rw [if_pos h0] at hp
    have := ((cp_pre u.dist.toNat u.len.toNat (out ++ [u.lit])).trans hp).subset
    exact hr _ (this (by simp))
   ·rw [h0.1]; decide
  ·exact ex_lit h3 hr u hu
theorem dig_small (N n : Nat) : ∀ x ∈ dig N n, x < 256 := by
 intro x hx; exact dig_lt hx
def fixN (l : List Tok) : Nat := ((toksB fixLit fixDist l).k + 10) / 8
theorem Fixed_bad {l : List Tok} (gt : Gv L a (l.flatMap tokV)) (hn : l.length = n) (hn2 : n < 2 ^ 61) (hck : ckGo l 0 ≠ 0) (H : Hs h L) (k : ∀ h', Hs h' L → Q (.tuple #[.slice none 0 0, .int .i64 (ckGo l 0)]) h') : SpecH PP z210 [.slice a n c] h Q :=
 z209.door (Check_hs gt hn hn2 H fun h2 H2 => ⟨_, rfl, y10 (bne_iff_ne.2 hck) (k h2 H2)⟩)
theorem ck_eq {l : List Tok} (h : ckGo l 0 = 0) : exGo 16384 l [] = (0, (exGo 16384 l []).2) := Prod.ext (by rw [ck_ex]; exact h) rfl
theorem ck_len {l : List Tok} (h : ckGo l 0 = 0) : l.length ≤ 16384 := by
 have h1 := ex_cnt (ck_eq h)
 have h2 := ex_len (lim := 16384) (l := l) (out := []) (by simp)
 simp at h1; omega
theorem Fixed_hs {l : List Tok} (gt : Gv L a (l.flatMap tokV)) (hn : l.length = n) (hw : ∀ t ∈ l, t.lit < 256) (hck : ckGo l 0 = 0) (H : Hs h L)
  (k : ∀ h' b z, Final z (exGo 16384 l []).2 → z.length = fixN l → (∀ x ∈ z, x < 256) → Hs h' (own (some ⟨b, 0, none⟩) z.length z.length y15 1 (nV z) :: L) → Q (.tuple #[.slice (some ⟨b, 0, none⟩) z.length z.length, .int .i64 0]) h') : SpecH PP z210 [.slice a n c] h Q := by
 have hlen := ck_len hck
 have hfit := ck_fit hw hck
 refine z209.door (Check_hs gt hn (by omega) H fun h2 H2 => ⟨_, rfl, y5 (by rw [hck]; rfl) ?_⟩)
 try dsimp only
 have N1 := H2.new (t := y18) (cs := ([_] : List Value).toArray) (xs := nI [8]) rfl
 refine y158 (v := 8) (k := 144) (fun h H => H.ptrd (by simp)) (by omega) (by omega) (by simp) N1 fun h3 b3 H3 => ⟨_, _, _, rfl, ?_⟩
 have H3 := H3.sel 2 [0] (by decide)
 have N2 := H3.new (t := y18) (cs := ([_] : List Value).toArray) (xs := nI [9]) rfl
 refine y158 (v := 9) (k := 112) (fun h H => H.ptrd (by simp)) (by omega) (by omega) (by simp) N2 fun h4 b4 H4 => ⟨_, _, _, rfl, ?_⟩
 have H4 := H4.sel 3 [0, 2] (by decide)
 have N3 := H4.new (t := y18) (cs := ([_] : List Value).toArray) (xs := nI [7]) rfl
 refine y158 (v := 7) (k := 24) (fun h H => H.ptrd (by simp)) (by omega) (by omega) (by simp) N3 fun h5 b5 H5 => ⟨_, _, _, rfl, ?_⟩
 have H5 := H5.sel 4 [0, 2, 3] (by decide)
 have N4 := H5.new (t := y18) (cs := ([_] : List Value).toArray) (xs := nI [8]) rfl
 refine y158 (v := 8) (k := 8) (fun h H => H.ptrd (by simp)) (by omega) (by omega) (by simp) N4 fun h6 b6 H6 => ⟨_, _, _, rfl, ?_⟩
 have H6 := H6.sel 5 [0, 2, 3, 4] (by decide)
 have N5 := H6.new (t := y14) (cs := ([_, _, _, _] : List Value).toArray) (xs := ([⟨some ⟨b3, 0, none⟩, 144, 144, List.replicate 144 8⟩, ⟨some ⟨b4, 0, none⟩, 112, 112, List.replicate 112 9⟩, ⟨some ⟨b5, 0, none⟩, 24, 24, List.replicate 24 7⟩, ⟨some ⟨b6, 0, none⟩, 8, 8, List.replicate 8 8⟩] : List Row).flatMap rowV) rfl
 refine Concat_hs (n := 288) rfl ?_ (by simp) (by omega) (by omega) N5 fun h7 a7 c7 hn7 H7 => ⟨_, _, _, rfl, ?_⟩
 ·intro x hx
  simp only [List.mem_cons, List.not_mem_nil, or_false] at hx
  rcases hx with rfl | rfl | rfl | rfl
  ·exact ⟨fun h H => (H.sel 4 [3] (by decide) : Hs h (own (some ⟨b3, 0, none⟩) 144 144 y18 1 (nI (List.replicate 144 8)) :: L)).rd, by simp, by simp⟩
  ·exact ⟨fun h H => (H.sel 4 [2] (by decide) : Hs h (own (some ⟨b4, 0, none⟩) 112 112 y18 1 (nI (List.replicate 112 9)) :: L)).rd, by simp, by simp⟩
  ·exact ⟨fun h H => (H.sel 4 [1] (by decide) : Hs h (own (some ⟨b5, 0, none⟩) 24 24 y18 1 (nI (List.replicate 24 7)) :: L)).rd, by simp, by simp⟩
  ·exact ⟨fun h H => H.rd, by simp, by simp⟩
 have e7 : ([⟨some ⟨b3, 0, none⟩, 144, 144, List.replicate 144 8⟩, ⟨some ⟨b4, 0, none⟩, 112, 112, List.replicate 112 9⟩, ⟨some ⟨b5, 0, none⟩, 24, 24, List.replicate 24 7⟩, ⟨some ⟨b6, 0, none⟩, 8, 8, List.replicate 8 8⟩] : List Row).flatMap (·.s) = fixLit := by
  simp only [List.flatMap_cons, List.flatMap_nil, List.append_nil]
  unfold fixLit
  simp only [List.append_assoc]
 rw [e7] at H7
 have H7 : Hs h7 (own a7 288 c7 y18 1 (nI fixLit) :: L) := H7.sel 5 [0] (by decide)
 refine NewWriter_hs H7 fun h8 p H8 => ⟨_, rfl, ?_⟩
 refine y115 (v := 1) (n := 1) (B := Bz.nil) H8 (by decide) (by decide) (by decide) fun h9 H9 => ⟨_, rfl, ?_⟩
 rw [Bz.nil_cat] at H9
 refine y115 (v := 1) (n := 2) H9 (by decide) (by decide) (by decide) fun h10 H10 => ⟨_, rfl, ?_⟩
 have N6 := H10.new (t := y18) (cs := ([_] : List Value).toArray) (xs := nI [5]) rfl
 refine y158 (v := 5) (k := 32) (fun h H => H.ptrd (by simp)) (by omega) (by omega) (by simp) N6 fun h11 b11 H11 => ⟨_, _, _, rfl, ?_⟩
 have H11 : Hs h11 (Wb p (Bz.cat ⟨1, 1⟩ ⟨1, 2⟩) :: own (some ⟨b11, 0, none⟩) 32 32 y18 1 (nI fixDist) :: own a7 288 c7 y18 1 (nI fixLit) :: L) := H11.sel 4 [2, 0, 3] (by decide)
 refine lay_hs' gt.cons.cons hn (by omega) (lit := fixLit) (dist := fixDist) (fun h H => (Hs.m1 H).rd) (fun h H => H.rd) fixLit_len (by decide +kernel) (by decide +kernel) (by decide +kernel) (by decide +kernel) fixLit_le fixDist_le fixLit_chk (Or.inl fixDist_chk) (fun t ht => ⟨hfit t ht, fix_has (hfit t ht)⟩) (by decide +kernel) (by decide) H11 fun h12 H12 => ⟨rfl, ?_⟩
 have hF := fix_final hfit (by omega) (ck_eq hck)
 rw [Bz.cat_assoc] at H12
 have hk : ((Bz.cat ⟨1, 1⟩ (Bz.cat ⟨1, 2⟩ (toksB fixLit fixDist l))).k + 7) / 8 = fixN l := by unfold fixN; simp only [Bz.cat]; omega
 refine Bytes_hs H12 fun h13 b13 H13 => ⟨_, _, _, rfl, ?_⟩
 rw [hk] at H13 hF ⊢
 have := k h13 b13 (dig (Bz.cat ⟨1, 1⟩ (Bz.cat ⟨1, 2⟩ (toksB fixLit fixDist l))).x (fixN l)) hF (y120 _ _) (dig_small _ _)
 rw [y120] at this
 exact this (H13.sel 4 [0] (by decide))
structure Cn (l : List Tok) (i : Nat) (lc dc : List Nat) : Prop where
 ll : lc.length = 286
 dl : dc.length = 30
 lb : ∀ x ∈ lc, x ≤ i + 1
 db : ∀ x ∈ dc, x ≤ i
 l256 : lc.getD 256 0 ≠ 0
 has : ∀ t ∈ l.take i, Has lc dc t
theorem up_le {l : List Nat} {s i : Nat} (hs : s < l.length) (h : ∀ x ∈ l, x ≤ i) : ∀ x ∈ l.set s (l.getD s 0 + 1), x ≤ i + 1 := fun x hx => by
 rcases List.mem_or_eq_of_mem_set hx with h1 | h1
 ·have := h x h1; omega
 ·have := h _ (y107 hs); omega
theorem up_ne {l : List Nat} {s j : Nat} (h : l.getD j 0 ≠ 0) : (l.set s (l.getD s 0 + 1)).getD j 0 ≠ 0 := by
 have hj := y105 h
 by_cases e : s = j
 ·subst e; simp [hj]
 ·rw [List.getD_eq_getElem?_getD, List.getElem?_set_ne e, ← List.getD_eq_getElem?_getD]; exact h
theorem up_at {l : List Nat} {s : Nat} (hs : s < l.length) : (l.set s (l.getD s 0 + 1)).getD s 0 ≠ 0 := by simp [hs]
theorem Has.mono {lc dc lc2 dc2 : List Nat} {t : Tok} (h : Has lc dc t) (h1 : ∀ j, lc.getD j 0 ≠ 0 → lc2.getD j 0 ≠ 0) (h2 : ∀ j, dc.getD j 0 ≠ 0 → dc2.getD j 0 ≠ 0) : Has lc2 dc2 t := by
 unfold Has at *
 split
 ·rename_i e; rw [if_pos e] at h; exact h1 _ h
 ·rename_i e; rw [if_neg e] at h; exact ⟨h1 _ h.1, h2 _ h.2⟩
theorem Cn.lit {l : List Tok} {i : Nat} {lc dc : List Nat} (K : Cn l i lc dc) (hi : i < l.length) (h0 : l[i].len = 0) (hf : Fit l[i]) : Cn l (i + 1) (lc.set l[i].lit (lc.getD l[i].lit 0 + 1)) dc := by
 have hs : l[i].lit < lc.length := by rw [K.ll]; have := hf.1; omega
 refine ⟨by simp [K.ll], K.dl, up_le hs K.lb, fun x hx => by have := K.db x hx; omega, up_ne K.l256, fun t ht => ?_⟩
 rw [List.take_succ_eq_append_getElem hi] at ht
 rcases List.mem_append.1 ht with ht | ht
 ·exact (K.has t ht).mono (fun j h => up_ne h) fun j h => h
 ·rw [List.mem_singleton.1 ht]
  unfold Has; rw [if_pos h0]; exact up_at hs
theorem Cn.cpy {l : List Tok} {i : Nat} {lc dc : List Nat} (K : Cn l i lc dc) (hi : i < l.length) (h0 : l[i].len ≠ 0) (hs1 : (lenS l[i].len.toNat).1 < 286) (hs2 : (distS l[i].dist.toNat).1 < 30) :
  Cn l (i + 1) (lc.set (lenS l[i].len.toNat).1 (lc.getD (lenS l[i].len.toNat).1 0 + 1)) (dc.set (distS l[i].dist.toNat).1 (dc.getD (distS l[i].dist.toNat).1 0 + 1)) := by
 have h1 : (lenS l[i].len.toNat).1 < lc.length := by rw [K.ll]; exact hs1
 have h2 : (distS l[i].dist.toNat).1 < dc.length := by rw [K.dl]; exact hs2
 refine ⟨by simp [K.ll], by simp [K.dl], up_le h1 K.lb, up_le h2 K.db, up_ne K.l256, fun t ht => ?_⟩
 rw [List.take_succ_eq_append_getElem hi] at ht
 rcases List.mem_append.1 ht with ht | ht
 ·exact (K.has t ht).mono (fun j h => up_ne h) fun j h => up_ne h
 ·rw [List.mem_singleton.1 ht]
  unfold Has; rw [if_neg h0]; exact ⟨up_at h1, up_at h2⟩
theorem longest_zero {l : List Nat} (h : ∀ i, l.getD i 0 = 0) : longest l = 0 := by
 have : longest l ≤ 0 := longest_le fun x hx => by
  obtain ⟨i, hi, rfl⟩ := List.mem_iff_getElem.1 hx
  have := h i; simp [hi] at this; omega
 omega
theorem Lim.has {lc dc lit dist : List Nat} {m : Nat} (A : Lim lc m lit) (B : Lim dc m dist) {t : Tok} (h : Has lc dc t) : Has lit dist t :=
 h.mono (fun j h hz => h ((A.zero j).1 hz)) fun j h hz => h ((B.zero j).1 hz)
theorem Dynamic_bad {l : List Tok} (gt : Gv L a (l.flatMap tokV)) (hn : l.length = n) (hn2 : n < 2 ^ 61) (hck : ckGo l 0 ≠ 0) (H : Hs h L) (k : ∀ h', Hs h' L → Q (.tuple #[.slice none 0 0, .int .i64 (ckGo l 0)]) h') : SpecH PP z208 [.slice a n c] h Q :=
 z207.door (Check_hs gt hn hn2 H fun h2 H2 => ⟨_, rfl, y10 (bne_iff_ne.2 hck) (k h2 H2)⟩)
theorem Dynamic_hs {l : List Tok} (T : Tb L) (gt : Gv L a (l.flatMap tokV)) (hn : l.length = n) (hw : ∀ t ∈ l, t.lit < 256) (hck : ckGo l 0 = 0) (H : Hs h L)
  (k : ∀ h' b z, Final z (exGo 16384 l []).2 → (∀ x ∈ z, x < 256) → z.length ≤ 200000 → Hs h' (own (some ⟨b, 0, none⟩) z.length z.length y15 1 (nV z) :: L) → Q (.tuple #[.slice (some ⟨b, 0, none⟩) z.length z.length, .int .i64 0]) h') : SpecH PP z208 [.slice a n c] h Q := by
 have hlen := ck_len hck
 have hfit := ck_fit hw hck
 refine z207.door (Check_hs gt hn (by omega) H fun h2 H2 => ⟨_, rfl, y5 (by rw [hck]; rfl) ?_⟩)
 have last : ∀ {h : Heap} {lb db : Nat} {lc dc : List Nat}, Cn l n lc dc → Hs h (own (some ⟨lb, 0, none⟩) 286 286 y18 1 (nI lc) :: own (some ⟨db, 0, none⟩) 30 30 y18 1 (nI dc) :: L) →
   z207.K1 Q (.exit 0) (z207.X0 a n c (some ⟨lb, 0, none⟩) 286 286 (some ⟨db, 0, none⟩) 30 30) h := by
  intro h lb db lc dc K H
  refine z207.L1_X0 ?_
  have i1 := ids_le lc
  have i2 := ids_le dc
  have hl := K.ll; have hd := K.dl
  refine Limit_hs (most := 15) (counts := lc) (fun h H => H.rd) K.ll (by omega) (by omega) (by omega) (by omega) (fun x hx => by have := K.lb x hx; omega) (by rw [show 2 ^ 15 = 32768 from rfl]; omega) H fun h3 b3 lit A H3 => ⟨_, _, _, _, rfl, ?_⟩
  refine Limit_hs (most := 15) (counts := dc) (fun h H => (H.sel 3 [2] (by decide) : Hs h (own (some ⟨db, 0, none⟩) 30 30 y18 1 (nI dc) :: L)).rd) K.dl (by omega) (by omega) (by omega) (by omega) (fun x hx => by have := K.db x hx; omega) (by rw [show 2 ^ 15 = 32768 from rfl]; omega) H3 fun h4 b4 dist B H4 => ⟨_, _, _, _, rfl, ?_⟩
  have H4 : Hs h4 (own (some ⟨b3, 0, none⟩) 286 286 y18 1 (nI lit) :: own (some ⟨b4, 0, none⟩) 30 30 y18 1 (nI dist) :: L) := H4.sel 4 [1, 0] (by decide)
  have gl : ∀ {M : List Assn}, Gv (own (some ⟨b3, 0, none⟩) 286 286 y18 1 (nI lit) :: own (some ⟨b4, 0, none⟩) 30 30 y18 1 (nI dist) :: L) (some ⟨b3, 0, none⟩) (nI lit) := fun {M} h H => H.rd
  have gd : Gv (own (some ⟨b3, 0, none⟩) 286 286 y18 1 (nI lit) :: own (some ⟨b4, 0, none⟩) 30 30 y18 1 (nI dist) :: L) (some ⟨b4, 0, none⟩) (nI dist) := fun h H => (Hs.m1 H).rd
  have al := A.len; have bl := B.len
  have n256 : lit.getD 256 0 ≠ 0 := fun hz => K.l256 ((A.zero 256).1 hz)
  have ckl : chk lit = 0 := A.chk ⟨256, K.l256⟩
  have ckd : longest dist = 0 ∨ chk dist = 0 := by
   by_cases hz : ∃ i, dc.getD i 0 ≠ 0
   ·exact Or.inr (B.chk hz)
   ·exact Or.inl (longest_zero fun i => (B.zero i).2 (Classical.byContradiction fun h => hz ⟨i, h⟩))
  have hok : headOk lit dist = true := decide_eq_true ⟨n256, ckl, ckd⟩
  have hkd : kr dist ≤ 2 ^ 15 := by
   by_cases hz : ∃ i, dc.getD i 0 ≠ 0
   ·exact chk_kr (B.chk hz)
   ·have h0 := longest_zero fun i => (B.zero i).2 (Classical.byContradiction fun h => hz ⟨i, h⟩)
    have : ∀ d : List Nat, longest d = 0 → kr d = 0 := by
     intro d
     induction d with
     | nil => intro _; rfl
     | cons x d ih =>
      intro h
      simp only [longest, List.foldr_cons] at h
      have hx : x = 0 := by omega
      have hd : longest d = 0 := by unfold longest; omega
      simp only [kr, hx, ih hd]; rfl
    rw [this dist h0]; omega
  have hall : ∀ t ∈ l, Fit t ∧ Has lit dist t := fun t ht => ⟨hfit t ht, Lim.has A B (K.has t (by rw [List.take_of_length_le (by omega)]; exact ht))⟩
  refine NewWriter_hs H4 fun h5 p H5 => ⟨_, rfl, ?_⟩
  refine y115 (v := 1) (n := 1) (B := Bz.nil) H5 (by decide) (by decide) (by decide) fun h6 H6 => ⟨_, rfl, ?_⟩
  rw [Bz.nil_cat] at H6
  refine y115 (v := 2) (n := 2) H6 (by decide) (by decide) (by decide) fun h7 H7 => ⟨_, rfl, ?_⟩
  refine Write_hs (lit := lit) (dist := dist) T.cons.cons (gl (M := L)) gd (by omega) (by omega) (by omega) (by omega) (by omega) (by omega) A.le B.le (by simp) (by simp) (by decide) H7 fun h8 b hb hbk htell H8 => ⟨_, rfl, y5 rfl ?_⟩
  refine lay_hs' gt.cons.cons hn (by omega) (gl (M := L)) gd (by omega) (by omega) (by omega) (by omega) (by omega) A.le B.le ckl ckd.symm hall n256 (by simp only [Bz.cat]; omega) H8 fun h9 H9 => ⟨rfl, ?_⟩
  have hF := dyn_final hb htell hok A.le hkd B.le hall (by omega) (ck_eq hck)
  have hk := toksB_k A.le B.le (l := l) hfit
  rw [Bz.cat_assoc, Bz.cat_assoc] at H9
  refine Bytes_hs H9 fun h13 b13 H13 => ⟨_, _, _, rfl, ?_⟩
  have := k h13 b13 _ hF (dig_small _ _) (by rw [y120]; simp only [Bz.cat]; omega)
  rw [y120] at this
  exact this (H13.sel 4 [0] (by decide))
 have go : ∀ (q i : Nat) {h : Heap} {lb db : Nat} {lc dc : List Nat}, i + q = n → Cn l i lc dc → Hs h (own (some ⟨lb, 0, none⟩) 286 286 y18 1 (nI lc) :: own (some ⟨db, 0, none⟩) 30 30 y18 1 (nI dc) :: L) →
   z207.L1 a n c (some ⟨lb, 0, none⟩) 286 286 (some ⟨db, 0, none⟩) 30 30 a n c (n : Nat) (i : Nat) (z207.K1 Q) h := by
  intro q
  induction q with
  | zero =>
   intro i h lb db lc dc hi K H
   obtain rfl : i = n := by omega
   exact z207.L1_of (y5 (decide_eq_false (by omega)) (last K H))
  | succ q ih =>
   intro i h lb db lc dc hi K H
   have hil : i < l.length := by omega
   refine z207.L1_of (y10 (decide_eq_true (by omega)) ?_)
   refine idxf y157 (φ := tokV) (l := l) (x := l[i]) (gt _ H.tl.tl) tokV_len (by omega) (by omega) (by omega) (by simp) fun t ht => ⟨_, _, _, ht, ?_⟩
   refine Hs.wrs (b := Array.size h) (xs := [.int .u8 0, .int .i64 0, .int .i64 0]) H.new (fun h3 H3 => ?_)
   generalize Array.size h = x at H3 ⊢
   have hf := hfit _ (List.getElem_mem hil)
   have k1 := K.lit hil
   have k2 := K.cpy hil
   generalize l[i] = t at H3 hf k1 k2
   have hl := K.ll; have hd := K.dl
   have lb' := K.lb; have db' := K.db
   have nx : ∀ {h : Heap} {lc dc : List Nat}, Cn l (i + 1) lc dc → Hs h (own (some ⟨lb, 0, none⟩) 286 286 y18 1 (nI lc) :: own (some ⟨db, 0, none⟩) 30 30 y18 1 (nI dc) :: L) → z207.J2 a n c (some ⟨lb, 0, none⟩) 286 286 (some ⟨db, 0, none⟩) 30 30 a n c (n : Nat) (i : Nat) (z207.K1 Q) h := by
    intro h lc dc K H
    refine z207.J2_of ?_
    try dsimp only
    rw [inc (by omega)]
    exact ih (i + 1) (by omega) K H
   refine ⟨_, H3.cell (off := 1) rfl, ?_⟩
   refine (y20 _ _ _).2 ⟨fun e => ?_, fun e => ?_⟩
   ·have e := beq_iff_eq.1 e
    have hlit := hf.1
    refine ⟨_, H3.cell (off := 0) rfl, ?_⟩
    refine idx y25 H3.m1.rd (by omega) (by omega) (v := .int .i64 (lc.getD t.lit 0 : Nat)) (by rw [Int.toNat_natCast]; exact nI_get (by omega)) fun t1 ht1 => ⟨_, ht1, ?_⟩
    have hb := lb' _ (y107 (l := lc) (i := t.lit) (by omega))
    try dsimp only
    rw [inc (by omega)]
    refine H3.m1.idx_set y25 (by omega) (by omega) rfl fun h4 H4 => ?_
    rw [Int.toNat_natCast, nI_set] at H4
    exact nx (k1 e hf) (H4.sel 3 [0, 2] (by decide))
   ·have e := beq_eq_false_iff_ne.1 e
    rcases hf with ⟨_, hf | ⟨f1, f2, f3, f4⟩⟩
    ·exact absurd hf e
    obtain ⟨a1, a2, a3, a4, a5⟩ := y162 (n := t.len.toNat) (by omega) (by omega) (o := [])
    obtain ⟨b1, b2, b3, b4⟩ := y153 (d := t.dist.toNat) (by omega) (by omega) (o := [])
    have k2 := k2 e (by omega) (by omega)
    refine ⟨t.len, H3.cell (off := 1) rfl, ?_⟩
    rw [show t.len = ((t.len.toNat : Nat) : Int) by omega]
    refine length_hs (by omega) (by omega) ⟨_, _, _, rfl, ?_⟩
    refine ⟨t.dist, H3.cell (off := 2) rfl, ?_⟩
    rw [show t.dist = ((t.dist.toNat : Nat) : Int) by omega]
    refine distance_hs (by omega) (by omega) ⟨_, _, _, rfl, ?_⟩
    generalize hS : lenS t.len.toNat = S at *
    obtain ⟨s1, s2, s3⟩ := S
    generalize hT : distS t.dist.toNat = T at *
    obtain ⟨d1, d2, d3⟩ := T
    dsimp only at *
    refine ixI y25 (i := s1) (fun h H => (Hs.m1 H).rd) hl (by omega) H3 fun t1 ht1 => ⟨_, ht1, ?_⟩
    have hb := lb' _ (y107 (l := lc) (i := s1) (by omega))
    rw [inc (by omega)]
    refine H3.m1.idx_set y25 (by omega) (by omega) rfl fun h4 H4 => ?_
    rw [Int.toNat_natCast, nI_set] at H4
    refine ixI y25 (i := d1) (fun h H => (H.sel 3 [2] (by decide) : Hs h (own (some ⟨db, 0, none⟩) 30 30 y18 1 (nI dc) :: L)).rd) hd (by omega) H4 fun t2 ht2 => ⟨_, ht2, ?_⟩
    have hb2 := db' _ (y107 (l := dc) (i := d1) (by omega))
    rw [inc (by omega)]
    refine H4.m2.idx_set y25 (by omega) (by omega) rfl fun h5 H5 => ?_
    rw [Int.toNat_natCast, nI_set] at H5
    exact nx k2 (H5.sel 3 [1, 0] (by decide))
 have start : ∀ {h : Heap} {lb db : Nat}, Hs h (own (some ⟨lb, 0, none⟩) 286 286 y18 1 (nI (List.replicate 286 0)) :: own (some ⟨db, 0, none⟩) 30 30 y18 1 (nI (List.replicate 30 0)) :: L) → z207.J1 a n c (some ⟨lb, 0, none⟩) 286 286 (some ⟨db, 0, none⟩) 30 30 Q h := by
  intro h lb db H
  refine z207.J1_of ?_
  refine H.idx_set (i := ((256 : Nat) : Int)) y25 (by omega) (by omega) rfl fun h4 H4 => ?_
  rw [Int.toNat_natCast] at H4
  have H4 : Hs h4 (own (some ⟨lb, 0, none⟩) 286 286 y18 1 (nI ((List.replicate 286 0).set 256 1)) :: own (some ⟨db, 0, none⟩) 30 30 y18 1 (nI (List.replicate 30 0)) :: L) := by
   rw [← nI_set]; exact H4
  refine go n 0 (by omega) ⟨by simp, by simp, ?_, ?_, by decide +kernel, by simp⟩ H4
  ·decide +kernel
  ·decide +kernel
 refine ⟨?_, ?_, trivial⟩
 ·refine H2.make (n := 286) (c := 286) y25 rfl rfl (Nat.le_refl _) (by omega) (by omega) fun h3 b3 H3 => ⟨_, _, _, rfl, ?_⟩
  have H4 := H3.pt_all (n := 286) (by simp)
  rw [← nI_rep] at H4
  refine H4.make (n := 30) (c := 30) y25 rfl rfl (Nat.le_refl _) (by omega) (by omega) fun h5 b5 H5 => ⟨_, _, _, rfl, ?_⟩
  have H6 := H5.pt_all (n := 30) (by simp)
  rw [← nI_rep] at H6
  exact start H6.m1
 ·refine H2.make (n := 30) (c := 30) y25 rfl rfl (Nat.le_refl _) (by omega) (by omega) fun h3 b3 H3 => ⟨_, _, _, rfl, ?_⟩
  have H4 := H3.pt_all (n := 30) (by simp)
  rw [← nI_rep] at H4
  refine H4.make (n := 286) (c := 286) y25 rfl rfl (Nat.le_refl _) (by omega) (by omega) fun h5 b5 H5 => ⟨_, _, _, rfl, ?_⟩
  have H6 := H5.pt_all (n := 286) (by simp)
  rw [← nI_rep] at H6
  exact start H6
end Go.Proofs.YtmkjmmpldepknaaDoor

set_option maxRecDepth 20000
namespace Go.Proofs.YtmkjmmpldepknaaDoor
open Go Go.HW Go.HW.Inf Go.HW.Pz Go.HW.Can Go.HW.PM
variable {h : Heap} {L : List Assn} {Q : Value → Heap → Prop} {a : OA} {n c : Nat}
structure Good (D z : List Nat) : Prop where
 fin : Final z D
 lt : ∀ x ∈ z, x < 256
 stor : z.length ≤ D.length + 5
theorem Deflate_hs {D : List Nat} (T : Tb L) (g : Gv L a (nV D)) (hn : D.length = n) (hn0 : a = none → n = 0) (hb : ∀ x ∈ D, x < 256) (h16 : n ≤ 16384) (H : Hs h L)
  (k : ∀ h' a' c' z, Good D z → z.length ≤ fixN (find D) → Hs h' (own a' z.length c' y15 1 (nV z) :: L) → Q (.tuple #[.slice a' z.length c', .int .i64 0]) h') : SpecH PP z200 [.slice a n c] h Q := by
 have hD : D.length ≤ 16384 := by omega
 have hck := find_ck hD
 have hex : exGo 16384 (find D) [] = (0, D) := by rw [find_ex hD, if_pos hD]
 have hlit := ex_lit hex hb
 have hr : (exGo 16384 (find D) []).2 = D := by rw [hex]
 refine z199.door ?_
 have N1 := H.new (t := y13) (cs := ([_] : List Value).toArray) (xs := [.slice a n c]) rfl
 try dsimp only
 generalize Array.size h = d1 at N1 ⊢
 generalize Array.push h _ = h1 at N1 ⊢
 refine ⟨_, _, _, N1.cell (off := 0) rfl rfl, y5 (decide_eq_false (by omega)) ⟨_, _, _, N1.cell (off := 0) rfl rfl, ?_⟩⟩
 refine Find_hs hb g.cons hn (by omega) hn0 N1 fun h2 ta tc H2 => ⟨_, _, _, rfl, ?_⟩
 have N2 := H2.new (t := y45) (cs := ([_] : List Value).toArray) (xs := [.slice none 0 0]) rfl
 try dsimp only
 generalize Array.size h2 = d2 at N2 ⊢
 generalize Array.push h2 _ = h3 at N2 ⊢
 refine N2.sto (off := 0) (by simp) fun h4 H4 => ?_
 have N3 := H4.new (t := y112) (cs := ([_, _, _] : List Value).toArray) (xs := [.func (.func z202) #[] #[P_ d1], .func (.func z204) #[] #[P_ d2], .func (.func z206) #[] #[P_ d2]]) rfl
 generalize Array.size h4 = d3 at N3 ⊢
 generalize Array.push h4 _ = h5 at N3 ⊢
 generalize hM : (pt d3 y112 [.func (.func z202) #[] #[P_ d1], .func (.func z204) #[] #[P_ d2], .func (.func z206) #[] #[P_ d2]] :: pt d2 y45 [.slice ta (find D).length tc] :: own ta (find D).length tc y38 3 ((find D).flatMap tokV) :: pt d1 y13 [.slice a n c] :: L) = M
 have N3 : Hs h5 M := by rw [← hM]; exact N3
 have gF : Gv M (some ⟨d3, 0, none⟩) [.func (.func z202) #[] #[P_ d1], .func (.func z204) #[] #[P_ d2], .func (.func z206) #[] #[P_ d2]] := by rw [← hM]; exact fun h H => H.ptrd (by simp)
 have c2 : ∀ {h : Heap}, Hs h M → cellH h ⟨d2, 0, none⟩ = some (.slice ta (find D).length tc) := by rw [← hM]; exact fun H => H.m1.cell (off := 0) rfl rfl
 have c1 : ∀ {h : Heap}, Hs h M → cellH h ⟨d1, 0, none⟩ = some (.slice a n c) := by rw [← hM]; exact fun H => H.m3.cell (off := 0) rfl rfl
 have gD : Gv M a (nV D) := by rw [← hM]; exact g.cons.cons.cons.cons
 have gT : Gv M ta ((find D).flatMap tokV) := by rw [← hM]; exact fun h H => (H.sel 3 [2] (by decide) : Hs h (own ta (find D).length tc y38 3 ((find D).flatMap tokV) :: L.cons (pt d1 y13 [.slice a n c]))).rd
 have TM : Tb M := by rw [← hM]; exact T.cons.cons.cons.cons
 have out : ∀ {h : Heap} {A : Assn}, Hs h (A :: M) → Hs h (A :: L) := by rw [← hM]; exact fun H => H.sel 5 [0] (by decide)
 clear N1 N2 H2 H4
 have pick : ∀ {h : Heap} {a1 a2 : OA} {c1 c2 : Nat} {z1 z2 : List Nat} {i : Nat} (b : Bool), (b = decide (((z2.length : Nat) : Int) < ((z1.length : Nat) : Int))) → Hs h (own a2 z2.length c2 y15 1 (nV z2) :: own a1 z1.length c1 y15 1 (nV z1) :: M) →
   (∀ {a' : OA} {c' : Nat} {z : List Nat}, (z = z1 ∨ z = z2) → z.length ≤ z1.length → z.length ≤ z2.length → Hs h (own a' z.length c' y15 1 (nV z) :: M) → z199.J2 a' z.length c' (some ⟨d3, 0, none⟩) 3 3 3 (i : Nat) (z199.K1 Q) h) →
   z199.J1 a1 z1.length c1 a2 z2.length c2 (some ⟨d3, 0, none⟩) 3 3 3 (i : Nat) b (z199.K1 Q) h := by
  intro h a1 a2 c1 c2 z1 z2 i b hb H kk
  refine z199.J1_of ((y20 _ _ _).2 ⟨fun e => ?_, fun e => ?_⟩)
  ·rw [hb] at e
   have e := of_decide_eq_true e
   exact kk (Or.inr rfl) (by omega) (Nat.le_refl _) (H.sel 2 [0] (by decide))
  ·rw [hb] at e
   have e := of_decide_eq_false e
   exact kk (Or.inl rfl) (Nat.le_refl _) (by omega) (H.sel 2 [1] (by decide))
 have three : ∀ {h : Heap} {a1 : OA} {c1 : Nat} {z1 : List Nat}, Good D z1 → z1.length ≤ fixN (find D) → Hs h (own a1 z1.length c1 y15 1 (nV z1) :: M) → z199.J2 a1 z1.length c1 (some ⟨d3, 0, none⟩) 3 3 3 2 (z199.K1 Q) h := by
  intro h a1 c1 z1 hz hf H
  refine z199.J2_of ?_
  exact z199.L1_of (y5 (by decide) (z199.L1_X0 (k h a1 c1 z1 hz hf (out H))))
 have two : ∀ {h : Heap} {a1 : OA} {c1 : Nat} {z1 : List Nat}, z1.length ≠ 0 → Good D z1 → z1.length ≤ fixN (find D) → Hs h (own a1 z1.length c1 y15 1 (nV z1) :: M) → z199.J2 a1 z1.length c1 (some ⟨d3, 0, none⟩) 3 3 3 1 (z199.K1 Q) h := by
  intro h a1 c1' z1 h0 hz hf H
  refine z199.J2_of (z199.L1_of (y10 (by decide) ?_))
  refine idx (i := ((2 : Nat) : Int)) y121 (gF _ H.tl) (by omega) (by omega) (v := .func (.func z206) #[] #[P_ d2]) rfl fun t ht => ⟨_, ht, ?_⟩
  refine y159 (by kernel_rfl) (z205.door ⟨_, _, _, c2 H.tl, ?_⟩)
  refine Dynamic_hs TM.cons gT.cons rfl hlit hck H fun h3 b3 z hF hx hle H3 => ⟨_, _, _, _, rfl, _, _, _, _, rfl, y10 rfl ?_⟩
  rw [hr] at hF
  have ha : a1 ≠ none := fun e => by subst e; have := H.Own.none_zero rfl; omega
  refine y5 (by cases a1 with | none => exact absurd rfl ha | some _ => rfl) ?_
  refine pick (i := 2) _ rfl H3 fun {a' c' z'} hz' hl1 hl2 H' => three ?_ (by omega) H'
  rcases hz' with rfl | rfl
  ·exact hz
  ·exact ⟨hF, hx, by have := hz.stor; omega⟩
 have one : ∀ {h : Heap} {a1 : OA} {c1 : Nat} {z1 : List Nat}, z1.length ≠ 0 → Good D z1 → Hs h (own a1 z1.length c1 y15 1 (nV z1) :: M) → z199.J2 a1 z1.length c1 (some ⟨d3, 0, none⟩) 3 3 3 0 (z199.K1 Q) h := by
  intro h a1 c1' z1 h0 hz H
  refine z199.J2_of (z199.L1_of (y10 (by decide) ?_))
  refine idx (i := ((1 : Nat) : Int)) y121 (gF _ H.tl) (by omega) (by omega) (v := .func (.func z204) #[] #[P_ d2]) rfl fun t ht => ⟨_, ht, ?_⟩
  refine y159 (by kernel_rfl) (z203.door ⟨_, _, _, c2 H.tl, ?_⟩)
  refine Fixed_hs gT.cons rfl hlit hck H fun h3 b3 z hF hle hx H3 => ⟨_, _, _, _, rfl, _, _, _, _, rfl, y10 rfl ?_⟩
  rw [hr] at hF
  have ha : a1 ≠ none := fun e => by subst e; have := H.Own.none_zero rfl; omega
  refine y5 (by cases a1 with | none => exact absurd rfl ha | some _ => rfl) ?_
  have hz0 : z.length ≠ 0 := by rw [hle]; unfold fixN; omega
  refine pick (i := 1) _ rfl H3 fun {a' c' z'} hz' hl1 hl2 H' => two ?_ ?_ (by omega) H'
  ·rcases hz' with rfl | rfl
   ·exact h0
   ·exact hz0
  ·rcases hz' with rfl | rfl
   ·exact hz
   ·exact ⟨hF, hx, by have := hz.stor; omega⟩
 refine z199.L1_of (y10 (by decide) ?_)
 refine idx (i := ((0 : Nat) : Int)) y121 (gF _ N3) (by omega) (by omega) (v := .func (.func z202) #[] #[P_ d1]) rfl fun t ht => ⟨_, ht, ?_⟩
 refine y159 (by kernel_rfl) (z201.door ⟨_, _, _, c1 N3, ?_⟩)
 refine Stored_hs gD hn hn0 h16 N3 fun h6 a6 c6 H6 => ⟨_, _, _, _, rfl, _, _, _, _, rfl, y10 rfl (y10 rfl (z199.J1_of (y10 rfl ?_)))⟩
 have e : n + 5 = (storB 1 D).length := by rw [y111, hn]
 rw [e] at H6 ⊢
 exact one (by rw [y111]; omega) ⟨final_stored hb hD, storB_lt (by decide) hb (by omega), by rw [y111]; omega⟩ H6
end Go.Proofs.YtmkjmmpldepknaaDoor

set_option maxRecDepth 20000
namespace Go.Proofs.YtmkjmmpldepknaaDoor
open Go Go.HW Go.HW.Inf Go.HW.Pz Go.HW.Can Go.HW.PM
variable {h : Heap} {L : List Assn} {Q : Value → Heap → Prop} {a : OA} {n c : Nat}
theorem part_any {P : Program} {e f : TypeId} {v : Value} {cs : Array Value} {off : Nat} (he : P.underlying e = some (.slice f)) (hv : cs[off]? = some v) {K : Value → Heap → Prop} (H : K v h) : hwp P (Go.part e cs off) K h := by
 unfold Go.part Go.isAgg
 refine (y8 _ _ _ _).2 ((y8 _ _ _ _).2 ((y22 he).2 ?_))
 show hwp P (if false = true then _ else _) K h
 rw [if_neg (by decide), hv]; exact H
theorem ais {P : Program} {t e f : TypeId} {n : Nat} (A : Arr P t e n 1) {k : IntKind} (he : P.underlying e = some (.slice f)) {j : Nat} {i : Int} {xs : List Value} {v : Value} (hi : j < n) (hv : xs[j]? = some v) {K : Value → Heap → Prop} (H : K v h) (hj : i = (j : Int) := by rfl) : hwp P (Instr.index t (.agg xs.toArray) (.int k i)) K h := by
 subst hj
 unfold Instr.index
 refine (y8 _ _ _ _).2 ?_
 show hwp P (Go.underlying t >>= _) K h
 refine (y8 _ _ _ _).2 ((y22 A.und).2 ?_)
 show hwp P (if 0 ≤ (j : Int) ∧ (j : Int) < n then _ else _) K h
 rw [if_pos (by omega)]
 refine (y8 _ _ _ _).2 (A.sizeOf ?_)
 exact part_any he (by rw [Nat.mul_one, Int.toNat_natCast]; simpa using hv) H
theorem KB_hs {b : OA} {m d : Nat} {xs ys : List Nat} (ga : Gv L a (nV xs)) (gb : Gv L b (nV ys)) (hna : xs.length = n) (hnb : ys.length = m) (hmax : n < 2 ^ 62) (H : Hs h L) (k : Q (.bool (decide (xs = ys))) h) : SpecH PP z276 [.slice a n c, .slice b m d] h Q := by
 refine z275.door ((y20 _ _ _).2 ⟨fun hne => ?_, fun heq => ?_⟩)
 ·have hne := bne_iff_ne.1 hne
  rw [decide_eq_false (fun e => by subst e; omega)] at k; exact k
 have heq := bne_eq_false_iff_eq.1 heq
 have e : m = n := by omega
 subst e
 have go : ∀ (q i : Nat), i + q = m → xs.take i = ys.take i → z275.L1 a m c b m d (i : Nat) (z275.K1 Q) h := by
  intro q
  induction q with
  | zero =>
   intro i hi ht
   rw [List.take_of_length_le (by omega), List.take_of_length_le (by omega)] at ht
   rw [decide_eq_true ht] at k
   exact z275.L1_of (y5 (decide_eq_false (by omega)) (z275.L1_X0 k))
  | succ q ih =>
   intro i hi ht
   have h1 : i < xs.length := by omega
   have h2 : i < ys.length := by omega
   refine z275.L1_of (y10 (decide_eq_true (by omega)) ?_)
   refine idx y33 (ga _ H) (by omega) (by omega) (v := .int .u8 (xs[i] : Nat)) (by rw [Int.toNat_natCast]; exact nV_get h1) fun t ht1 => ⟨_, ht1, ?_⟩
   refine idx y33 (gb _ H) (by omega) (by omega) (v := .int .u8 (ys[i] : Nat)) (by rw [Int.toNat_natCast]; exact nV_get h2) fun t ht2 => ⟨_, ht2, ?_⟩
   refine (y20 _ _ _).2 ⟨fun hb' => z275.L1_Xret ?_, fun hb' => ?_⟩
   ·have hb' := bne_iff_ne.1 hb'
    rw [decide_eq_false (fun e => by subst e; exact hb' rfl)] at k; exact k
   ·have hb' := bne_eq_false_iff_eq.1 hb'
    try dsimp only
    rw [inc (by omega)]
    refine ih (i + 1) (by omega) ?_
    rw [List.take_succ_eq_append_getElem h1, List.take_succ_eq_append_getElem h2, ht, show xs[i] = ys[i] by omega]
 exact go m 0 (by omega) rfl
theorem part_hs {cuts : List Int} {i left : Nat} (g : Gv L a (cuts.map (Value.int .i64))) (hn : cuts.length = n) (H : Hs h L) (k : ∀ m : Nat, m ≤ left → (n ≤ i → m = left) → Q (.int .i64 (m : Nat)) h) : SpecH PP z364 [.slice a n c, .int .i64 (i : Nat), .int .i64 (left : Nat)] h Q := by
 refine z363.door ((y20 _ _ _).2 ⟨fun e => k left (Nat.le_refl _) fun _ => rfl, fun e => ?_⟩)
 have e := of_decide_eq_false e
 have hi : i < cuts.length := by omega
 refine idx y25 (g _ H) (by omega) (by omega) (v := .int .i64 cuts[i]) (by rw [Int.toNat_natCast]; simp [hi]) fun t ht => ⟨_, ht, ?_⟩
 generalize cuts[i] = x
 try dsimp only
 by_cases h1 : x < (left : Int)
 ·rw [if_pos h1]
  by_cases h2 : x > 0
  ·rw [if_pos h2, show x = ((x.toNat : Nat) : Int) by omega]
   exact k _ (by omega) (by omega)
  ·rw [if_neg h2]; exact k 0 (by omega) (by omega)
 ·rw [if_neg h1]
  by_cases h2 : (left : Int) > 0
  ·rw [if_pos h2]; exact k left (by omega) (by omega)
  ·rw [if_neg h2]; exact k 0 (by omega) (by omega)
def Dst (s : Nat) (K : List Nat) (t : Nat) : Assn := fun m => ∃ a c, ((∀ x ∈ K, x < 256) ∧ t + K.length ≤ 16384) ∧ Sp [pt s y119 [.slice a K.length c, .int .i64 (t : Nat), .bool false], own a K.length c y15 1 (nV K)] m
theorem Dst_iff {s t : Nat} {K : List Nat} : Hs h (Dst s K t :: L) ↔ ∃ a c, ((∀ x ∈ K, x < 256) ∧ t + K.length ≤ 16384) ∧ Hs h (pt s y119 [.slice a K.length c, .int .i64 (t : Nat), .bool false] :: own a K.length c y15 1 (nV K) :: L) := by
 unfold Dst; simp only [Hs.ex, Hs.and, Hs.app, List.cons_append, List.nil_append]
theorem DNew_hs (H : Hs h L) (k : ∀ h' s, Hs h' (Dst s [] 0 :: L) → Q (P_ s) h') : SpecH PP z212 [] h Q := by
 refine z211.door ?_
 have N := H.new (t := y119) (cs := ([_, _, _] : List Value).toArray) (xs := [.slice none 0 0, .int .i64 (0 : Nat), .bool false]) rfl
 exact k _ _ (Dst_iff.2 ⟨none, 0, ⟨by simp, by simp⟩, (N.own_nil y15 1).m1⟩)
theorem DFeed_hs {s t : Nat} {K x : List Nat} (H : Hs h (Dst s K t :: L)) (g : Gv L a (nV x)) (hn : x.length = n) (hn0 : a = none → n = 0) (hx : ∀ v ∈ x, v < 256) (h16 : t + K.length + n ≤ 16384)
  (k1 : (K ++ x).length < 4096 → ∀ h', Hs h' (Dst s (K ++ x) t :: L) → Q (.tuple #[.slice none 0 0, .int .i64 0]) h')
  (k2 : 4096 ≤ (K ++ x).length → ∀ h' a' c', Hs h' (own a' (storB 0 (K ++ x)).length c' y15 1 (nV (storB 0 (K ++ x))) :: Dst s [] (t + (K ++ x).length) :: L) → Q (.tuple #[.slice a' (storB 0 (K ++ x)).length c', .int .i64 0]) h') :
  SpecH PP z218 [P_ s, .slice a n c] h Q := by
 subst hn
 obtain ⟨ka, kc, ⟨hb, hl⟩, H1⟩ := Dst_iff.1 H
 have hbx : ∀ v ∈ K ++ x, v < 256 := fun v hv => by rcases List.mem_append.1 hv with h | h; exact hb v h; exact hx v h
 have hlx : t + (K ++ x).length ≤ 16384 := by simp; omega
 refine z217.door (y5 rfl ?_)
 try dsimp only [nilc]
 try simp only [y47, Nat.zero_add]
 refine ⟨_, H1.cell (off := 2) rfl rfl, y5 rfl ⟨_, H1.cell (off := 1) rfl rfl, _, _, _, H1.cell (off := 0) rfl rfl, ?_⟩⟩
 rw [show IntKind.i64.wrap (16384 - (t : Int)) = ((16384 - t : Nat) : Int) by rw [wz (by omega) (by omega)]; omega, show IntKind.i64.wrap (((16384 - t : Nat) : Int) - (K.length : Int)) = ((16384 - t - K.length : Nat) : Int) by rw [wz (by omega) (by omega)]; omega]
 refine y5 (decide_eq_false (by omega)) ⟨_, _, _, H1.cell (off := 0) rfl rfl, ?_⟩
 refine H1.m1.app_sl y33 ((g.cons.cons) _ H1.m1) (by rw [nV_len]; omega) hn0 (nV_one _) (fun h5 a5 c5 H5 => ⟨_, _, _, rfl, ?_⟩) (by omega) (by omega)
 rw [← nV_app, show K.length + x.length = (K ++ x).length by simp] at H5
 rw [show K.length + x.length = (K ++ x).length by simp]
 refine H5.m1.sto (off := 0) (by simp) fun h6 H6 => ?_
 have H6 : Hs h6 (pt s y119 [.slice a5 (K ++ x).length c5, .int .i64 (t : Nat), .bool false] :: own a5 (K ++ x).length c5 y15 1 (nV (K ++ x)) :: L) := H6
 refine ⟨_, _, _, H6.cell (off := 0) rfl rfl, (y20 _ _ _).2 ⟨fun e => ?_, fun e => ?_⟩⟩
 ·have e := of_decide_eq_true e
  exact k1 (by omega) h6 (Dst_iff.2 ⟨a5, c5, ⟨hbx, hlx⟩, H6⟩)
 have e := of_decide_eq_false e
 refine ⟨_, _, _, H6.cell (off := 0) rfl rfl, ?_⟩
 refine Stored_hs (D := K ++ x) (fun h H => (Hs.m1 H).rd) rfl (fun ha => H6.m1.Own.none_zero ha) (by omega) H6 fun h7 a7 c7 H7 => ⟨_, _, _, _, rfl, y5 rfl ?_⟩
 refine H7.idx_set (i := ((0 : Nat) : Int)) y33 (by omega) (by omega) rfl fun h8 H8 => ?_
 have e8 : (nV (storB 1 (K ++ x))).set (Int.toNat ((0 : Nat) : Int)) (.int .u8 0) = nV (storB 0 (K ++ x)) := rfl
 rw [e8] at H8
 try dsimp only [nilc]
 try simp only [y47, Nat.zero_add]
 refine ⟨_, H8.m1.cell (off := 1) rfl rfl, _, _, _, H8.m1.cell (off := 0) rfl rfl, ?_⟩
 rw [show IntKind.i64.wrap ((t : Int) + ((K ++ x).length : Int)) = ((t + (K ++ x).length : Nat) : Int) by rw [wz (by omega) (by omega)]; omega]
 refine H8.m1.sto (off := 1) (by simp) fun h9 H9 => ?_
 refine H9.sto (off := 0) (by simp) fun h10 H10 => ?_
 have el : (K ++ x).length + 5 = (storB 0 (K ++ x)).length := by rw [y111]
 rw [el] at H10 ⊢
 refine k2 (by omega) h10 a7 c7 ?_
 have H11 : Hs h10 (pt s y119 [.slice none 0 0, .int .i64 (t + (K ++ x).length : Nat), .bool false] :: own a7 (storB 0 (K ++ x)).length c7 y15 1 (nV (storB 0 (K ++ x))) :: L) := H10.sel 3 [0, 1] (by decide)
 exact (Dst_iff.2 ⟨none, 0, ⟨by simp, by simpa using hlx⟩, (H11.own_nil y15 1).m1⟩).m1
theorem DClose_hs {s t : Nat} {K : List Nat} (T : Tb L) (H : Hs h (Dst s K t :: L))
  (k : ∀ h' a' c' z, Good K z → Hs h' (own a' z.length c' y15 1 (nV z) :: L) → Q (.tuple #[.slice a' z.length c', .int .i64 0]) h') : SpecH PP z216 [P_ s] h Q := by
 obtain ⟨ka, kc, ⟨hb, hl⟩, H1⟩ := Dst_iff.1 H
 refine z215.door (y5 rfl ?_)
 try dsimp only [nilc]
 try simp only [y47, Nat.zero_add]
 refine ⟨_, H1.cell (off := 2) rfl rfl, y5 rfl ?_⟩
 refine H1.sto (off := 2) (by simp) fun h2 H2 => ⟨_, _, _, H2.cell (off := 0) rfl rfl, ?_⟩
 refine Deflate_hs (D := K) T.cons.cons (fun h H => (Hs.m1 H).rd) rfl (fun ha => H2.m1.Own.none_zero ha) hb (by omega) H2 fun h3 a3 c3 z hz _ H3 => ⟨_, _, _, _, rfl, k h3 a3 c3 z hz (H3.sel 3 [0] (by decide))⟩
end Go.Proofs.YtmkjmmpldepknaaDoor

set_option maxRecDepth 20000
namespace Go.Proofs.YtmkjmmpldepknaaDoor
open Go Go.HW Go.HW.Inf Go.HW.Pz Go.HW.Can Go.HW.PM
variable {h : Heap} {L : List Assn} {Q : Value → Heap → Prop} {a : OA} {n c : Nat}
def D18 : List Nat := [97, 98, 99, 97, 98, 99, 97, 98, 99, 97, 98, 99, 97, 98, 99, 97, 98, 99]
theorem D18_fix : fixN (find D18) < 18 := by decide +kernel
theorem D18_lt : ∀ x ∈ D18, x < 256 := by decide +kernel
theorem y164 (T : Tb L) (H : Hs h L) (k : ∀ h', Hs h' L → Q (.bool true) h') : SpecH PP z362 [] h Q := by
 refine z361.door ?_
 have N1 := H.new (t := y15) (cs := ([_, _, _, _, _, _, _, _, _, _, _, _, _, _, _, _, _, _] : List Value).toArray) (xs := nV D18) rfl
 try dsimp only
 refine N1.conv U_sl_uint8 U_uint8 fun h2 H2 => ⟨_, _, _, rfl, ?_⟩
 refine Deflate_hs (D := D18) T.cons Gv.rdO rfl (by simp) D18_lt (by omega) H2 fun h3 a3 c3 z hz hf H3 => ⟨_, _, _, _, rfl, ?_⟩
 have hlt := D18_fix
 obtain ⟨q, hq, hg⟩ := final_infl hz.fin (lim := 18) (Nat.le_refl 18) hz.lt
 have hzl : z.length ≤ 23 := hz.stor
 refine y167 (most := 18) (bs := z) T.cons.cons H3 H3.rd rfl (fun ha => H3.Own.none_zero ha) hz.lt (by omega) (by omega) (fun p o ho hx hl h4 a4 c4 H4 => ⟨_, _, _, _, _, rfl, y10 rfl (y10 rfl ?_)⟩) (fun e o he => by rw [hq] at he; cases he)
 rw [hq] at ho
 injection ho with _ hp ho
 subst hp; subst ho
 rw [hg]
 refine y10 (beq_iff_eq.2 rfl) ?_
 refine hwp_b2s U_string U_sl_uint8 U_uint8 H4.rd rfl (fun ha => H4.Own.none_zero ha) ⟨_, rfl, y10 (decide_eq_true (by rfl)) ?_⟩
 try dsimp only
 rw [decide_eq_true (by omega)]
 exact k h4 (H4.sel 3 [] (by decide))
theorem part_z {B : List Nat} (hB : ∀ x ∈ B, x < 256) {most k : Nat} (hk : k ≤ B.length) : (∃ o, infl (B.take k) most = .bad 55 o) ∨ infl B most = infl (B.take k) most := by
 rcases infl_part (lim := most) hB hk with ⟨o, h, _⟩ | h
 ·exact Or.inl ⟨o, h⟩
 ·exact Or.inr h
theorem out_drop {o1 o : List Nat} (h : o1 <+: o) : o1 ++ o.drop o1.length = o := by
 obtain ⟨t, rfl⟩ := h; simp
theorem unpacked_hs {B : List Nat} {cuts : List Int} {ca : OA} {cn cc most p : Nat} {o : List Nat} (T : Tb L) (g : Gv L a (nV B)) (hn : B.length = n) (hnc : n ≤ c) (hn0 : a = none → c = 0) (gc : Gv L ca (cuts.map (Value.int .i64))) (hcn : cuts.length = cn) (hcc : cn ≤ 1000)
  (hB : ∀ x ∈ B, x < 256) (h22 : n ≤ 2 ^ 22) (hm : most ≤ 16384) (hz : infl B most = .ok () p o) (hp : (p + 7) / 8 = n) (H : Hs h L)
  (k : ∀ h' a' c', Hs h' (own a' o.length c' y15 1 (nV o) :: L) → Q (.tuple #[.slice a' o.length c', .bool true]) h') : SpecH PP z366 [.slice a n c, .slice ca cn cc, .int .i64 (most : Nat)] h Q := by
 subst hn
 refine z365.door (INew_hs hm H fun h2 s H2 => ⟨_, _, rfl, y5 rfl (z365.J1_of (y5 rfl ?_))⟩)
 have go : ∀ (q i at_ : Nat) {h : Heap} {oa : OA} {oc : Nat}, i + q = cn + 1 → at_ ≤ B.length → (q = 0 → at_ = B.length) → Hs h (own oa (Rz.out (infl (B.take at_) most)).length oc y15 1 (nV (Rz.out (infl (B.take at_) most))) :: Ist s (B.take at_) most :: L) →
   z365.L1 a B.length c ca cn cc (some ⟨s, 0, none⟩) oa (Rz.out (infl (B.take at_) most)).length oc (at_ : Nat) (i : Nat) (z365.K2 Q) h := by
  intro q
  induction q with
  | zero =>
   intro i at_ h oa oc hi hle hat H
   obtain rfl := hat rfl
   rw [List.take_length, hz] at H ⊢
   refine z365.L1_of (y5 (decide_eq_false (by omega)) (z365.L1_X0 ?_))
   refine IDone_hs H.m1 ⟨_, rfl, y10 (by rw [hz]; rfl) ?_⟩
   refine IRest_hs H.m1 hz fun h3 a3 c3 hn3 H3 => ⟨_, _, _, rfl, y10 ?_ ?_⟩
   ·rw [hp, Nat.sub_self]; rfl
   refine IClose_hs H3.m1 ⟨_, rfl, ?_⟩
   rw [hz]
   exact k h3 oa oc (H3.sel 3 [2] (by decide))
  | succ q ih =>
   intro i at_ h oa oc hi hle hat H
   refine z365.L1_of (y10 (decide_eq_true (by omega)) ?_)
   try dsimp only
   rw [show IntKind.i64.wrap ((B.length : Int) - (at_ : Int)) = ((B.length - at_ : Nat) : Int) by rw [wz (by omega) (by omega)]; omega]
   refine part_hs gc.cons.cons hcn H fun m hm1 hm2 => ⟨_, rfl, ?_⟩
   try dsimp only
   have ew : IntKind.i64.wrap ((at_ : Int) + (m : Int)) = ((at_ + m : Nat) : Int) := by rw [wz (by omega) (by omega)]; omega
   rw [ew]
   refine bytes_cutG y33 g rfl hnc hn0 (i := at_) (j := at_ + m) (by omega) (by omega) fun xa xc gx hx0 _ _ => ⟨_, _, _, rfl, ?_⟩
   have hl2 : ((B.drop at_).take (at_ + m - at_)).length = at_ + m - at_ := by simp; omega
   have hcat : B.take at_ ++ (B.drop at_).take (at_ + m - at_) = B.take (at_ + m) := by rw [List.take_add, Nat.add_sub_cancel_left]
   have hout := infl_len (B.take at_) most
   refine IFeed_hs T.cons H.m1 gx.cons hl2 hx0 (fun v hv => hB v (List.mem_of_mem_drop (List.mem_of_mem_take hv))) (by simp; omega) (fun o' ho' hpre h5 a5 n5 c5 hn5 hn50 H5 => ⟨_, _, _, _, rfl, y5 rfl ?_⟩) (fun e o' he h0 h55 => ?_)
   ·have ho2 : Rz.out (infl (B.take (at_ + m)) most) = o' := by
     rw [← hcat]; rcases ho' with ⟨p, hh⟩ | hh <;> rw [hh] <;> rfl
    have hol := infl_len (B.take (at_ + m)) most
    rw [ho2] at hol
    have hpl := hpre.length_le
    subst hn5
    refine H5.m2.app_sl y33 H5.rd (by rw [nV_len, List.length_drop]; omega) hn50 (nV_one _) (fun h6 a6 c6 H6 => ⟨_, _, _, rfl, ?_⟩) (by omega) (by omega)
    try dsimp only
    rw [inc (by omega)]
    rw [← nV_app, out_drop hpre] at H6
    have e9 : (Rz.out (infl (B.take at_) most)).length + (o'.length - (Rz.out (infl (B.take at_) most)).length) = (Rz.out (infl (B.take (at_ + m)) most)).length := by rw [ho2]; omega
    rw [hcat] at H6
    rw [e9] at H6 ⊢
    refine ih (i + 1) (at_ + m) (by omega) (by omega) (fun h0 => ?_) ?_
    ·have := hm2 (by omega); omega
    ·rw [ho2] at H6 ⊢; exact H6.sel 3 [0, 2] (by decide)
   ·rw [hcat] at he
    rcases part_z hB (most := most) (k := at_ + m) (by omega) with ⟨o3, h3⟩ | h3
    ·rw [h3] at he; injection he with he _; exact absurd he.symm h55
    ·rw [hz, he] at h3; cases h3
 have e0 : Rz.out (infl (B.take 0) most) = [] := by rw [List.take_zero, infl_nil]; rfl
 have := go (cn + 1) 0 0 (h := h2) (oa := none) (oc := 0) (by omega) (by omega) (by omega) (by rw [e0]; exact H2.own_nil y15 1)
 rw [e0] at this
 exact this
end Go.Proofs.YtmkjmmpldepknaaDoor

set_option maxRecDepth 20000
namespace Go.Proofs.YtmkjmmpldepknaaDoor
open Go Go.HW Go.HW.Inf Go.HW.Pz Go.HW.Can Go.HW.PM
variable {h : Heap} {L : List Assn} {Q : Value → Heap → Prop} {a : OA} {n c : Nat}
theorem TopUnpacks_hs {B : List Nat} {cuts : List Int} {limit : Int} {ca : OA} {cn cc : Nat} (T : Tb L) (g : Gv L a (nV B)) (hn : B.length = n) (hnc : n ≤ c) (hn0 : a = none → c = 0) (gc : Gv L ca (cuts.map (Value.int .i64))) (hcn : cuts.length = cn)
  (hB : ∀ x ∈ B, x < 256) (H : Hs h L) (k : ∀ h', Hs h' L → Q (.bool true) h') : SpecH PP z360 [.slice a n c, .int .i64 limit, .slice ca cn cc] h Q := by
 subst hn
 have big : z359.J1 a B.length c limit ca cn cc true Q h := z359.J1_of (y10 rfl (y164 T H fun h2 H2 => ⟨_, rfl, k h2 H2⟩))
 refine z359.door ((y20 _ _ _).2 ⟨fun e => big, fun e1 => (y20 _ _ _).2 ⟨fun e => big, fun e2 => (y20 _ _ _).2 ⟨fun e => big, fun e3 => ?_⟩⟩⟩)
 have e1 := of_decide_eq_false e1
 have e2 := of_decide_eq_false e2
 have e3 := of_decide_eq_false e3
 rcases e4 : decide (limit > 16384) with _ | _
 rotate_left
 ·exact big
 have e4 := of_decide_eq_false e4
 clear big
 obtain ⟨most, rfl⟩ := Int.eq_ofNat_of_zero_le (show 0 ≤ limit by omega)
 refine z359.J1_of (y5 rfl ?_)
 have loop : ∀ {oz : OA} {on oc xn : Nat} {ez : Int} {s : Nat} {M : List Assn}, Tb M → Gv M a (nV B) → Gv M ca (cuts.map (Value.int .i64)) →
   (∀ {h : Heap} {G F : List Nat} {ga : OA} {gc : Nat} {last : Int}, G.length ≤ most → (last = 0 → F = B ∧ G = Rz.out (infl B most) ∧ ((∃ p o, infl B most = .ok () p o) ∨ ∃ o, infl B most = .bad 55 o)) → (last ≠ 0 → last ≠ 55 ∧ (∃ o, infl B most = .bad last o) ∧ ∃ o, infl F most = .bad last o) →
    Hs h (own ga G.length gc y15 1 (nV G) :: Ist s F most :: M) → z359.K3 Q (.exit 0) (z359.X0 a B.length c (most : Nat) oz on oc (xn : Nat) ez (some ⟨s, 0, none⟩) ga G.length gc last) h) →
   ∀ {h : Heap}, Hs h (Ist s [] most :: M) → z359.L1 a B.length c (most : Nat) ca cn cc oz on oc (xn : Nat) ez (some ⟨s, 0, none⟩) none 0 0 0 0 0 (z359.K3 Q) h := by
  intro oz on oc xn ez s M T g gc fin h0 H0
  have go : ∀ (q i at_ : Nat) {h : Heap} {ga : OA} {gcc : Nat} {G : List Nat} {last : Int}, i + q = cn + 1 → at_ ≤ B.length → (q = 0 → at_ = B.length) → G.length ≤ most → (last = 0 → G = Rz.out (infl (B.take at_) most) ∧ ((∃ p o, infl (B.take at_) most = .ok () p o) ∨ ∃ o, infl (B.take at_) most = .bad 55 o)) →
    (last ≠ 0 → last ≠ 55 ∧ ∃ o, infl (B.take at_) most = .bad last o) → Hs h (own ga G.length gcc y15 1 (nV G) :: Ist s (B.take at_) most :: M) →
    z359.L1 a B.length c (most : Nat) ca cn cc oz on oc (xn : Nat) ez (some ⟨s, 0, none⟩) ga G.length gcc (at_ : Nat) last (i : Nat) (z359.K3 Q) h := by
   intro q
   induction q with
   | zero =>
    intro i at_ h ga gcc G last hi hle hat hG h0 h1 H
    obtain rfl := hat rfl
    rw [List.take_length] at H h0 h1
    exact z359.L1_of (y5 (decide_eq_false (by omega)) (fin hG (fun h => ⟨rfl, h0 h⟩) (fun h => ⟨(h1 h).1, (h1 h).2, (h1 h).2⟩) H))
   | succ q ih =>
    intro i at_ h ga gcc G last hi hle hat hG h0 h1 H
    refine z359.L1_of (y10 (decide_eq_true (by omega)) ((y20 _ _ _).2 ⟨fun el => ?_, fun el => ?_⟩))
    rotate_left
    ·have el := beq_eq_false_iff_ne.1 el
     obtain ⟨h55, o, ho⟩ := h1 el
     refine fin hG (fun h => absurd h el) (fun _ => ⟨h55, ⟨o, ?_⟩, ⟨o, ho⟩⟩) H
     rcases part_z hB (most := most) hle with ⟨o3, h3⟩ | h3
     ·rw [ho] at h3; injection h3 with h3 _; exact absurd h3 h55
     ·rw [h3, ho]
    have el := beq_iff_eq.1 el
    obtain ⟨rfl, hst⟩ := h0 el
    try dsimp only
    rw [show IntKind.i64.wrap ((B.length : Int) - (at_ : Int)) = ((B.length - at_ : Nat) : Int) by rw [wz (by omega) (by omega)]; omega]
    refine part_hs gc.cons.cons hcn H fun m hm1 hm2 => ⟨_, rfl, ?_⟩
    try dsimp only
    have ew : IntKind.i64.wrap ((at_ : Int) + (m : Int)) = ((at_ + m : Nat) : Int) := by rw [wz (by omega) (by omega)]; omega
    rw [ew]
    refine bytes_cutG y33 g rfl hnc hn0 (i := at_) (j := at_ + m) (by omega) (by omega) fun xa xc gx hx0 _ _ => ⟨_, _, _, rfl, ?_⟩
    have hl2 : ((B.drop at_).take (at_ + m - at_)).length = at_ + m - at_ := by simp; omega
    have hcat : B.take at_ ++ (B.drop at_).take (at_ + m - at_) = B.take (at_ + m) := by rw [List.take_add, Nat.add_sub_cancel_left]
    refine IFeed_hs T.cons H.m1 gx.cons hl2 hx0 (fun v hv => hB v (List.mem_of_mem_drop (List.mem_of_mem_take hv))) (by simp; omega) (fun o' ho' hpre h5 a5 n5 c5 hn5 hn50 H5 => ⟨_, _, _, _, rfl, ?_⟩) (fun e o' he h0 h55 h5 H5 => ⟨_, _, _, _, rfl, ?_⟩)
    ·rw [hcat] at ho' H5
     have ho2 : Rz.out (infl (B.take (at_ + m)) most) = o' := by
      rcases ho' with ⟨p, hh⟩ | hh <;> rw [hh] <;> rfl
     have hol := infl_len (B.take (at_ + m)) most
     rw [ho2] at hol
     have hpl := hpre.length_le
     subst hn5
     refine H5.m2.app_sl y33 H5.rd (by rw [nV_len, List.length_drop]; omega) hn50 (nV_one _) (fun h6 a6 c6 H6 => ⟨_, _, _, rfl, ?_⟩) (by omega) (by omega)
     try dsimp only
     rw [inc (by omega)]
     rw [← nV_app, out_drop hpre] at H6
     have e9 : (Rz.out (infl (B.take at_) most)).length + (o'.length - (Rz.out (infl (B.take at_) most)).length) = o'.length := by omega
     rw [e9] at H6 ⊢
     refine ih (i + 1) (at_ + m) (by omega) (by omega) (fun h0 => ?_) hol (fun _ => ⟨ho2.symm, ?_⟩) (fun h => absurd rfl h) (H6.sel 3 [0, 2] (by decide))
     ·have := hm2 (by omega); omega
     ·rcases ho' with ⟨p, hh⟩ | hh
      ·exact Or.inl ⟨p, o', hh⟩
      ·exact Or.inr ⟨o', hh⟩
    ·rw [hcat] at he H5
     refine H5.m1.app_sl y33 (a2 := none) (ys := []) (m := 0) (Rd.nil _ _) rfl (fun _ => rfl) (by simp) (fun h6 a6 c6 H6 => ⟨_, _, _, rfl, ?_⟩) (by omega) (by omega)
     try dsimp only
     rw [inc (by omega)]
     rw [List.append_nil, Nat.add_zero] at H6
     rw [Nat.add_zero]
     refine ih (i + 1) (at_ + m) (by omega) (by omega) (fun h0 => ?_) hG (fun h => absurd h h0) (fun _ => ⟨h55, o', he⟩) H6
     have := hm2 (by omega); omega
  have e0 : Rz.out (infl (B.take 0) most) = [] := by rw [List.take_zero, infl_nil]; rfl
  exact go (cn + 1) 0 0 (ga := none) (gcc := 0) (G := []) (last := 0) (by omega) (by omega) (by omega) (by simp) (fun _ => ⟨e0.symm, Or.inr ⟨[], by rw [List.take_zero, infl_nil]⟩⟩) (fun h => absurd rfl h) (H0.own_nil y15 1)
 refine y167 T H (g _ H) rfl (fun ha => by have := hn0 ha; omega) hB (by omega) (by omega) (fun p o hz hx hl h2 a2 c2 H2 => ⟨_, _, _, _, _, rfl, ?_⟩) (fun e o hz he hx h2 H2 => ⟨_, _, _, _, _, rfl, ?_⟩)
 ·have hg := infl_gone hz
  refine INew_hs (by omega) H2 fun h3 s H3 => ⟨_, _, rfl, y5 rfl (y5 rfl (y5 (decide_eq_false (by omega)) (z359.J2_of (y5 (decide_eq_false (by omega)) ?_))))⟩
  refine loop (s := s) T.cons g.cons gc.cons ?_ H3
  intro h G F ga gcc last hG h0 h1 H
  have hl0 : last = 0 := Classical.byContradiction fun hh => by
   obtain ⟨_, ⟨o3, h3⟩, _⟩ := h1 hh
   rw [hz] at h3; cases h3
  obtain ⟨rfl, rfl, _⟩ := h0 hl0
  have eo : Rz.out (infl F most) = o := by rw [hz]; rfl
  rw [eo] at H ⊢
  have H : Hs h (own ga o.length gcc y15 1 (nV o) :: Ist s F most :: own a2 o.length c2 y15 1 (nV o) :: L) := H
  refine z359.L1_X0 (y5 (decide_eq_false (by omega)) (y10 rfl ?_))
  refine IRest_hs H.m1 hz fun h4 a4 c4 hn4 H4 => ⟨_, _, _, rfl, ?_⟩
  have H4 : Hs h4 (own a4 (F.length - (p + 7) / 8) c4 y15 1 (nV (F.drop ((p + 7) / 8))) :: Ist s F most :: own ga o.length gcc y15 1 (nV o) :: own a2 o.length c2 y15 1 (nV o) :: L) := H4
  refine Deflate_hs (D := o) T.cons.cons.cons.cons (fun h H => (H.sel 4 [3] (by decide) : Hs h (own a2 o.length c2 y15 1 (nV o) :: L)).rd) rfl (fun ha => H2.Own.none_zero ha) hx (by omega) H4 fun h5 a5 c5 z hzz _ H5 => ⟨_, _, _, _, rfl, ?_⟩
  obtain ⟨q, hq, hgq⟩ := final_infl hzz.fin (lim := most) hl hzz.lt
  have hst := hzz.stor
  refine y167 (bs := z) T.cons.cons.cons.cons.cons H5 H5.rd rfl (fun ha => H5.Own.none_zero ha) hzz.lt (by omega) (by omega) (fun p5 o5 ho hx5 hl5 h6 a6 c6 H6 => ⟨_, _, _, _, _, rfl, ?_⟩) (fun e o5 he => by rw [hq] at he; cases he)
  rw [hq] at ho
  injection ho with _ _ ho
  subst ho
  refine y164 T.cons.cons.cons.cons.cons.cons H6 fun h7 H7 => ⟨_, rfl, y10 rfl ?_⟩
  refine y10 (by rw [hl0]; rfl) ?_
  refine IDone_hs (H7.m3) ⟨_, rfl, y10 (by rw [hz]; rfl) ?_⟩
  refine KB_hs (xs := o) (ys := o) (fun h H => (H.sel 5 [4] (by decide) : Hs h (own ga o.length gcc y15 1 (nV o) :: _)).rd) (fun h H => (H.sel 6 [5] (by decide) : Hs h (own a2 o.length c2 y15 1 (nV o) :: L)).rd) rfl rfl (by omega) H7 ⟨_, rfl, y10 (decide_eq_true rfl) ?_⟩
  refine bytes_tailG (L := own a6 o.length c6 y15 1 (nV o) :: own a5 z.length c5 y15 1 (nV z) :: own a4 (F.length - (p + 7) / 8) c4 y15 1 (nV (F.drop ((p + 7) / 8))) :: Ist s F most :: own ga o.length gcc y15 1 (nV o) :: own a2 o.length c2 y15 1 (nV o) :: L) y33 (g.cons.cons.cons.cons.cons.cons) rfl hnc hn0 hg.2 fun a8 c8 g8 hn8 _ _ => ⟨_, _, _, rfl, ?_⟩
  refine KB_hs (xs := F.drop ((p + 7) / 8)) (ys := F.drop ((p + 7) / 8)) (fun h H => (H.sel 3 [2] (by decide) : Hs h (own a4 (F.length - (p + 7) / 8) c4 y15 1 (nV (F.drop ((p + 7) / 8))) :: _)).rd) g8 (by simp) (by simp) (by omega) H7 ⟨_, rfl, y10 (decide_eq_true rfl) ?_⟩
  refine y10 rfl (y10 rfl ?_)
  refine KB_hs (xs := o) (ys := o) (fun h H => H.rd) (fun h H => (H.sel 6 [5] (by decide) : Hs h (own a2 o.length c2 y15 1 (nV o) :: L)).rd) rfl rfl (by omega) H7 ⟨_, rfl, ?_⟩
  rw [decide_eq_true rfl]
  exact k h7 (H7.sel 6 [] (by decide))
 ·refine INew_hs (by omega) H2 fun h3 s H3 => ⟨_, _, rfl, y5 rfl (y5 rfl (y5 (decide_eq_false (by omega)) (z359.J2_of (y5 (decide_eq_false (by omega)) ?_))))⟩
  refine loop (s := s) (xn := 0) T g gc ?_ H3
  intro h G F ga gcc last hG h0 h1 H
  refine z359.L1_X0 (y5 (decide_eq_false (by omega)) (y5 (beq_eq_false_iff_ne.2 he) ((y20 _ _ _).2 ⟨fun e55 => ?_, fun e55 => ?_⟩)))
  ·have e55 := beq_iff_eq.1 e55
   subst e55
   have hl0 : last = 0 := Classical.byContradiction fun hh => by
    obtain ⟨q55, ⟨o3, h3⟩, _⟩ := h1 hh
    rw [hz] at h3; injection h3 with h3 _; exact q55 h3.symm
   obtain ⟨rfl, rfl, _⟩ := h0 hl0
   refine y164 T.cons.cons H fun h7 H7 => ⟨_, rfl, y10 rfl (y10 (by rw [hl0]; rfl) ?_)⟩
   refine IDone_hs H7.m1 ⟨_, rfl, y10 (by rw [hz]; rfl) ?_⟩
   refine IClose_hs H7.m1 ⟨_, rfl, ?_⟩
   rw [hz]
   exact k h7 (H7.sel 2 [] (by decide))
  ·have e55 := beq_eq_false_iff_ne.1 e55
   have hl0 : last ≠ 0 := fun hh => by
    obtain ⟨_, _, ⟨p3, o3, h3⟩ | ⟨o3, h3⟩⟩ := h0 hh
    ·rw [hz] at h3; cases h3
    ·rw [hz] at h3; injection h3 with h3 _; exact e55 h3
   obtain ⟨_, ⟨o3, h3⟩, o4, h4⟩ := h1 hl0
   rw [hz] at h3; injection h3 with h3 _
   subst h3
   refine y164 T.cons.cons H fun h7 H7 => ⟨_, rfl, y10 rfl (y10 (by simp) ?_)⟩
   refine IDone_hs H7.m1 ⟨_, rfl, y10 (by rw [h4]; rfl) ?_⟩
   exact k h7 (H7.sel 2 [] (by decide))
end Go.Proofs.YtmkjmmpldepknaaDoor

set_option maxRecDepth 20000
namespace Go.Proofs.YtmkjmmpldepknaaDoor
open Go Go.HW Go.HW.Inf Go.HW.Pz Go.HW.Can Go.HW.PM
variable {h : Heap} {L : List Assn} {Q : Value → Heap → Prop} {a : OA} {n c : Nat}
theorem stor_len : ∀ ds : List (List Nat), (ds.flatMap (storB 0)).length = ds.flatten.length + 5 * ds.length
 | [] => rfl
 | d :: ds => by rw [List.flatMap_cons, List.length_append, stor_len ds, y111]; simp; omega
structure Tells' (Z D : List Nat) : Prop where
 lt : ∀ x ∈ Z, x < 256
 le : Z.length ≤ 2 ^ 22
 ok : ∃ q, infl Z D.length = .ok () q D ∧ (q + 7) / 8 = Z.length
theorem pack_step {D Z : List Nat} {others : List Int} {oa ba : OA} {on oc bn bc k : Nat} {a w p : OA} {n c wn wc pn pc : Nat} {K : EP} {M : List Assn} (T : Tb M) (gD : Gv M a (nV D)) (hn : D.length = n) (hn16 : n ≤ 16384) (gb : Gv M ba (nV Z)) (hbn : Z.length = bn) (hnc : bn ≤ bc) (hb0 : ba = none → bc = 0) (go : Gv M oa (others.map (Value.int .i64))) (hon : others.length = on) (hoc : on ≤ 1000)
  (hZ : Tells' Z D) (hk : k < 2) (hi : ([.slice w wn wc, .slice p pn pc] : List Value)[k]? = some (.slice ba bn bc)) (H : Hs h M)
  (kk : ∀ h', Hs h' M → z355.L2 a n c oa on oc w wn wc p pn pc 0 ((k + 1 : Nat) : Int) K h') :
  z355.L2 a n c oa on oc w wn wc p pn pc 0 (k : Nat) K h := by
 subst hn
 obtain ⟨q, hq, hg⟩ := hZ.ok
 have hle := hZ.le
 refine z355.L2_of (y10 (decide_eq_true (by omega)) ?_)
 refine ais A_2_sl_uint8 U_sl_uint8 (xs := [.slice w wn wc, .slice p pn pc]) hk hi ⟨_, _, _, rfl, ?_⟩ rfl
 refine y167 (bs := Z) T H (gb _ H) hbn (fun ha => by have := hb0 ha; omega) hZ.lt (by omega) hn16 (fun p1 o1 ho hx hl h2 a2 c2 H2 => ⟨_, _, _, _, _, rfl, ?_⟩) (fun e o he => by rw [hq] at he; cases he)
 rw [hq] at ho
 injection ho with _ e1 e2
 subst e1; subst e2
 refine unpacked_hs (B := Z) T.cons gb.cons hbn hnc hb0 go.cons hon hoc hZ.lt (by omega) hn16 hq (by omega) H2 fun h3 a3 c3 H3 => ⟨_, _, _, _, rfl, ?_⟩
 have gD2 := gD.cons (A := own a2 D.length c2 y15 1 (nV D)) |>.cons (A := own a3 D.length c3 y15 1 (nV D))
 refine y5 rfl (y5 rfl (y5 (bne_eq_false_iff_eq.2 (by omega)) ?_))
 refine KB_hs (xs := D) (ys := D) (fun h H => (Hs.m1 H).rd) gD2 rfl rfl (by omega) H3 ⟨_, rfl, y5 (by rw [decide_eq_true rfl]; rfl) (y5 rfl ?_)⟩
 refine KB_hs (xs := D) (ys := D) (fun h H => H.rd) gD2 rfl rfl (by omega) H3 ⟨_, rfl, ?_⟩
 try dsimp only
 rw [decide_eq_true rfl]
 have nx : ∀ {h : Heap}, Hs h M → z355.J4 a D.length c oa on oc w wn wc p pn pc 0 (k : Nat) K h := fun {h} H => by
  refine z355.J4_of ?_
  try dsimp only
  rw [inc (by omega)]
  exact kk h H
 have H3' := H3.sel 2 [] (by decide)
 refine z355.J3_of (y5 rfl ((y20 _ _ _).2 ⟨fun e => ?_, fun e => nx H3'⟩))
 have e := of_decide_eq_true e
 try dsimp only
 rw [show IntKind.i64.wrap ((D.length : Int) - 1) = ((D.length - 1 : Nat) : Int) by rw [wz (by omega) (by omega)]; omega]
 have h56 := infl_lim hq (l2 := D.length - 1)
 rw [if_neg (by omega)] at h56
 obtain ⟨o6, h56⟩ := h56
 refine y167 (bs := Z) T H3' (gb _ H3') hbn (fun ha => by have := hb0 ha; omega) hZ.lt (by omega) (by omega) (fun p1 o1 ho => by rw [h56] at ho; cases ho) (fun e o he h0 hx h5 H5 => ⟨_, _, _, _, _, rfl, ?_⟩)
 rw [h56] at he
 injection he with he _
 subst he
 exact y5 rfl (nx H5)
theorem TopPacks_hs {D : List Nat} {cuts others : List Int} {ca oa : OA} {cn cc on oc : Nat} (T : Tb L) (g : Gv L a (nV D)) (hn : D.length = n) (hnc : n ≤ c) (hn0 : a = none → c = 0) (gc : Gv L ca (cuts.map (Value.int .i64))) (hcn : cuts.length = cn) (go : Gv L oa (others.map (Value.int .i64))) (hon : others.length = on)
  (hD : ∀ x ∈ D, x < 256) (H : Hs h L) (k : ∀ h', Hs h' L → Q (.bool true) h') : SpecH PP z356 [.slice a n c, .slice ca cn cc, .slice oa on oc] h Q := by
 have big : z355.J1 a n c ca cn cc oa on oc true Q h := z355.J1_of (y10 rfl (y164 T H fun h2 H2 => ⟨_, rfl, k h2 H2⟩))
 refine z355.door ((y20 _ _ _).2 ⟨fun e => big, fun e1 => (y20 _ _ _).2 ⟨fun e => big, fun e2 => ?_⟩⟩)
 have e1 := of_decide_eq_false e1
 have e2 := of_decide_eq_false e2
 rcases e4 : decide ((on : Int) > 200) with _ | _
 rotate_left
 ·exact big
 have e4 := of_decide_eq_false e4
 clear big
 refine z355.J1_of (y5 rfl ?_)
 refine Deflate_hs (D := D) T g hn (fun ha => by have := hn0 ha; omega) hD (by omega) H fun h2 za zc z0 hz0 _ H2 => ⟨_, _, _, _, rfl, ?_⟩
 refine DNew_hs H2 fun h3 s H3 => ⟨_, rfl, y5 rfl (z355.J2_of (y5 rfl ?_))⟩
 have tz0 : Tells' z0 D := by
  obtain ⟨q, h1, h2⟩ := final_infl hz0.fin (Nat.le_refl _) hz0.lt
  have := hz0.stor
  exact ⟨hz0.lt, by omega, q, h1, h2⟩
 have last : ∀ {h : Heap} {pa : OA} {pc : Nat} {Z : List Nat}, Tells' Z D → Hs h (own pa Z.length pc y15 1 (nV Z) :: own za z0.length zc y15 1 (nV z0) :: L) → z355.L2 a n c oa on oc za z0.length zc pa Z.length pc 0 0 (z355.K5 Q) h := by
  intro h pa pc Z hZ H
  refine pack_step (k := 0) (Z := z0) T.cons.cons g.cons.cons hn (by omega) (fun h H => (Hs.m1 H).rd) rfl H.m1.own_le (own_none0 H.m1) go.cons.cons hon (by omega) tz0 (by omega) rfl H fun h4 H4 => ?_
  refine pack_step (k := 1) (Z := Z) T.cons.cons g.cons.cons hn (by omega) (fun h H => H.rd) rfl H4.own_le (own_none0 H4) go.cons.cons hon (by omega) hZ (by omega) rfl H4 fun h5 H5 => ?_
  refine z355.L2_of (y5 (by decide) (z355.L2_X2 ?_))
  exact y164 T.cons.cons H5 fun h6 H6 => ⟨_, rfl, k h6 (H6.sel 2 [] (by decide))⟩
 have go : ∀ (q i at_ : Nat) {h : Heap} {pa : OA} {pc : Nat} {ds : List (List Nat)} {K : List Nat}, i + q = cn + 1 → at_ ≤ n → (q = 0 → at_ = n) → ds.length ≤ i → (∀ e ∈ ds, (∀ x ∈ e, x < 256) ∧ e.length ≤ 16384) → ds.flatten ++ K = D.take at_ →
   Hs h (own pa (ds.flatMap (storB 0)).length pc y15 1 (nV (ds.flatMap (storB 0))) :: Dst s K ds.flatten.length :: own za z0.length zc y15 1 (nV z0) :: L) →
   z355.L1 a n c ca cn cc oa on oc za z0.length zc (some ⟨s, 0, none⟩) pa (ds.flatMap (storB 0)).length pc (at_ : Nat) (i : Nat) (z355.K3 Q) h := by
  intro q
  induction q with
  | zero =>
   intro i at_ h pa pc ds K hi hle hat hds hel hcat H
   have hat := hat rfl
   rw [hat, List.take_of_length_le (by omega)] at hcat
   have hlen := congrArg List.length hcat
   rw [List.length_append] at hlen
   have hsl := stor_len ds
   refine z355.L1_of (y5 (decide_eq_false (by omega)) (z355.L1_X0 ?_))
   refine DClose_hs (T.cons.cons) (H.m1 : Hs h (Dst s K ds.flatten.length :: own pa (ds.flatMap (storB 0)).length pc y15 1 (nV (ds.flatMap (storB 0))) :: own za z0.length zc y15 1 (nV z0) :: L)) fun h4 a4 c4 z hz H4 => ⟨_, _, _, _, rfl, ?_⟩
   have hst := hz.stor
   refine H4.m1.app_sl y33 H4.rd (by rw [nV_len]; omega) (fun ha => H4.Own.none_zero ha) (nV_one _) (fun h6 a6 c6 H6 => ⟨_, _, _, rfl, ?_⟩) (by omega) (by omega)
   rw [← nV_app] at H6
   have el : (ds.flatMap (storB 0)).length + z.length = (rowB ds z).length := by unfold rowB; simp
   rw [el] at H6 ⊢
   have hbz : ∀ x ∈ rowB ds z, x < 256 := by
    intro x hx
    unfold rowB at hx
    rcases List.mem_append.1 hx with hx | hx
    ·obtain ⟨e, he, hx⟩ := List.mem_flatMap.1 hx
     exact storB_lt (by decide) (hel e he).1 (by have := (hel e he).2; omega) x hx
    ·exact hz.lt x hx
   refine last ⟨hbz, by omega, ?_⟩ (H6.sel 3 [0, 2] (by decide))
   obtain ⟨q, h1, h2⟩ := row_infl hz.fin hel (by unfold FF; omega) (lim := D.length) (by omega) hbz
   rw [hcat] at h1
   exact ⟨q, h1, h2⟩
  | succ q ih =>
   intro i at_ h pa pc ds K hi hle hat hds hel hcat H
   have hlen := congrArg List.length hcat
   rw [List.length_append, List.length_take] at hlen
   have hsl := stor_len ds
   refine z355.L1_of (y10 (decide_eq_true (by omega)) ?_)
   try dsimp only
   rw [show IntKind.i64.wrap ((n : Int) - (at_ : Int)) = ((n - at_ : Nat) : Int) by rw [wz (by omega) (by omega)]; omega]
   refine part_hs gc.cons.cons.cons hcn H fun m hm1 hm2 => ⟨_, rfl, ?_⟩
   try dsimp only
   have ew : IntKind.i64.wrap ((at_ : Int) + (m : Int)) = ((at_ + m : Nat) : Int) := by rw [wz (by omega) (by omega)]; omega
   rw [ew]
   refine bytes_cutG y33 g hn hnc hn0 (i := at_) (j := at_ + m) (by omega) (by omega) fun xa xc gx hx0 _ _ => ⟨_, _, _, rfl, ?_⟩
   have hl2 : ((D.drop at_).take (at_ + m - at_)).length = at_ + m - at_ := by simp; omega
   have hx2 : D.take at_ ++ (D.drop at_).take (at_ + m - at_) = D.take (at_ + m) := by rw [List.take_add, Nat.add_sub_cancel_left]
   generalize hxx : (D.drop at_).take (at_ + m - at_) = x at *
   have hbx : ∀ v ∈ x, v < 256 := fun v hv => by rw [← hxx] at hv; exact hD v (List.mem_of_mem_drop (List.mem_of_mem_take hv))
   have hbk : ∀ v ∈ K ++ x, v < 256 := fun v hv => by
    rcases List.mem_append.1 hv with hv | hv
    ·exact hD v (List.mem_of_mem_take (i := at_) (by rw [← hcat]; simp [hv]))
    ·exact hbx v hv
   have hkl : (K ++ x).length ≤ 16384 := by rw [List.length_append, hl2]; omega
   refine DFeed_hs H.m1 gx.cons.cons hl2 hx0 hbx (by omega) (fun hlt h5 H5 => ⟨_, _, _, _, rfl, y5 rfl ?_⟩) (fun hge h5 a5 c5 H5 => ⟨_, _, _, _, rfl, y5 rfl ?_⟩)
   ·refine H5.m1.app_sl y33 (a2 := none) (ys := []) (m := 0) (Rd.nil _ _) rfl (fun _ => rfl) (by simp) (fun h6 a6 c6 H6 => ⟨_, _, _, rfl, ?_⟩) (by omega) (by omega)
    try dsimp only
    rw [inc (by omega)]
    rw [List.append_nil, Nat.add_zero] at H6
    rw [Nat.add_zero]
    refine ih (i + 1) (at_ + m) (by omega) (by omega) (fun h0 => ?_) (by omega) hel (by rw [← List.append_assoc, hcat, hx2]) H6
    have := hm2 (by omega); omega
   ·refine H5.m2.app_sl y33 H5.rd (by rw [nV_len]; omega) (fun ha => H5.Own.none_zero ha) (nV_one _) (fun h6 a6 c6 H6 => ⟨_, _, _, rfl, ?_⟩) (by rw [y111]; omega) (by rw [y111]; omega)
    try dsimp only
    rw [inc (by omega)]
    rw [← nV_app] at H6
    have e6 : ds.flatMap (storB 0) ++ storB 0 (K ++ x) = (ds ++ [K ++ x]).flatMap (storB 0) := by simp
    have e7 : (ds.flatMap (storB 0)).length + (storB 0 (K ++ x)).length = ((ds ++ [K ++ x]).flatMap (storB 0)).length := by rw [← e6, List.length_append]
    have e8 : ds.flatten.length + (K ++ x).length = (ds ++ [K ++ x]).flatten.length := by simp
    rw [e6, e7, e8] at H6
    rw [e7]
    refine ih (i + 1) (at_ + m) (K := []) (by omega) (by omega) (fun h0 => ?_) (by simp; omega) ?_ ?_ (H6.sel 3 [0, 2] (by decide))
    ·have := hm2 (by omega); omega
    ·intro e he
     rcases List.mem_append.1 he with he | he
     ·exact hel e he
     ·rw [List.mem_singleton.1 he]; exact ⟨hbk, hkl⟩
    ·rw [List.append_nil, List.flatten_append]; simp only [List.flatten_cons, List.flatten_nil, List.append_nil]; rw [← List.append_assoc, hcat, hx2]
 exact go (cn + 1) 0 0 (pa := none) (pc := 0) (ds := []) (K := []) (by omega) (by omega) (by omega) (by simp) (by simp) (by simp) (H3.own_nil y15 1)
end Go.Proofs.YtmkjmmpldepknaaDoor

set_option maxRecDepth 20000
namespace Go.Proofs.YtmkjmmpldepknaaDoor
open Go Go.HW Go.HW.Inf Go.HW.Pz Go.HW.Can Go.HW.PM
variable {h : Heap} {L : List Assn} {Q : Value → Heap → Prop} {a : OA} {n c : Nat}
theorem tok_step {D Z : List Nat} {ba : OA} {bn bc k : Nat} {a x y z : OA} {n c xn xc yn yc zn zc : Nat} {K : EP} {M : List Assn} (T : Tb M) (gD : Gv M a (nV D)) (hn : D.length = n) (hn16 : n ≤ 16384) (gb : Gv M ba (nV Z)) (hbn : Z.length = bn) (hb0 : ba = none → bn = 0)
  (hZ : Tells' Z D) (hk : k < 3) (hi : ([.slice x xn xc, .slice y yn yc, .slice z zn zc] : List Value)[k]? = some (.slice ba bn bc)) (H : Hs h M)
  (kk : ∀ h', Hs h' M → z357.L1 a n c x xn xc y yn yc z zn zc ((k + 1 : Nat) : Int) K h') :
  z357.L1 a n c x xn xc y yn yc z zn zc (k : Nat) K h := by
 subst hn
 obtain ⟨q, hq, hg⟩ := hZ.ok
 have hle := hZ.le
 refine z357.L1_of (y10 (decide_eq_true (by omega)) ?_)
 refine ais A_3_sl_uint8 U_sl_uint8 (xs := [.slice x xn xc, .slice y yn yc, .slice z zn zc]) hk hi ⟨_, _, _, rfl, ?_⟩ rfl
 refine y167 (bs := Z) T H (gb _ H) hbn hb0 hZ.lt (by omega) hn16 (fun p1 o1 ho hx hl h2 a2 c2 H2 => ⟨_, _, _, _, _, rfl, ?_⟩) (fun e o he => by rw [hq] at he; cases he)
 rw [hq] at ho
 injection ho with _ e1 e2
 subst e1; subst e2
 refine y5 rfl (y5 (bne_eq_false_iff_eq.2 (by omega)) ?_)
 refine KB_hs (xs := D) (ys := D) (fun h H => H.rd) gD.cons rfl rfl (by omega) H2 ⟨_, rfl, z357.J2_of (y5 (by rw [decide_eq_true rfl]; rfl) ?_)⟩
 try dsimp only
 rw [inc (by omega)]
 exact kk h2 (H2.sel 1 [] (by decide))
theorem tells_of {z D : List Nat} (hz : Final z D) (hx : ∀ x ∈ z, x < 256) (hl : z.length ≤ 2 ^ 22) : Tells' z D := by
 obtain ⟨q, h1, h2⟩ := final_infl hz (Nat.le_refl _) hx
 exact ⟨hx, hl, q, h1, h2⟩
theorem TopTokens_hs {l : List Tok} (T : Tb L) (g : Gv L a (l.flatMap tokV)) (hn : l.length = n) (hw : ∀ t ∈ l, TokWf t) (H : Hs h L) (k : ∀ h', Hs h' L → Q (.bool true) h') : SpecH PP z358 [.slice a n c] h Q := by
 refine z357.door ((y20 _ _ _).2 ⟨fun e => y164 T H fun h2 H2 => ⟨_, rfl, k h2 H2⟩, fun e => ?_⟩)
 have e := of_decide_eq_false e
 have hlit : ∀ t ∈ l, t.lit < 256 := fun t ht => (hw t ht).lit
 have hck := ck_exAll l
 refine Expand_hs g hn (by omega) H fun h2 oa oc H2 => ⟨_, _, _, _, rfl, ?_⟩
 by_cases hz : ckGo l 0 = 0
 rotate_left
 ·refine Fixed_bad g.cons hn (by omega) hz H2 fun h3 H3 => ⟨_, _, _, _, rfl, ?_⟩
  refine Dynamic_bad g.cons hn (by omega) hz H3 fun h4 H4 => ⟨_, _, _, _, rfl, ?_⟩
  refine y10 (bne_iff_ne.2 (by rw [hck]; exact hz)) (y164 T.cons H4 fun h5 H5 => ⟨_, rfl, y10 rfl ?_⟩)
  refine y10 (beq_iff_eq.2 hck.symm) (y10 (beq_iff_eq.2 hck.symm) (y10 rfl ?_))
  exact k h5 H5.tl
 have hex : exAll l 16384 = (0, (exGo 16384 l []).2) := by rw [exAll_def]; exact ck_eq hz
 have hfx : ∀ x ∈ (exGo 16384 l []).2, x < 256 := ex_lt hw (by simp)
 have hle := ex_len (lim := 16384) (l := l) (out := []) (by simp)
 rw [hex] at H2 ⊢
 generalize hDD : (exGo 16384 l []).2 = D at *
 have hlen := ck_len hz
 have hfit := ck_fit hlit hz
 refine Fixed_hs g.cons hn hlit hz H2 fun h3 b3 z3 f3 l3 x3 H3 => ⟨_, _, _, _, rfl, ?_⟩
 refine Dynamic_hs T.cons.cons g.cons.cons hn hlit hz H3 fun h4 b4 z4 f4 x4 l4 H4 => ⟨_, _, _, _, rfl, y5 rfl ?_⟩
 refine Stored_hs (D := D) (fun h H => (H.sel 3 [2] (by decide) : Hs h (own oa D.length oc y15 1 (nV D) :: L)).rd) rfl (fun ha => H2.Own.none_zero ha) hle H4 fun h5 a5 c5 H5 => ⟨_, _, _, _, rfl, ?_⟩
 refine y5 rfl (y5 rfl (z357.J1_of (y5 rfl ?_)))
 have hk := toksB_k fixLit_le fixDist_le (l := l) hfit
 rw [hDD] at f3 f4
 have t3 := tells_of f3 x3 (by rw [l3]; unfold fixN; omega)
 have t4 := tells_of f4 x4 (by omega)
 have hst : D.length + 5 = (storB 1 D).length := by rw [y111]
 rw [hst] at H5 ⊢
 have t5 := tells_of (final_stored hfx hle) (storB_lt (by decide) hfx (by omega)) (by rw [y111]; omega)
 have T5 := T.cons (A := own oa D.length oc y15 1 (nV D)) |>.cons (A := own (some ⟨b3, 0, none⟩) z3.length z3.length y15 1 (nV z3)) |>.cons (A := own (some ⟨b4, 0, none⟩) z4.length z4.length y15 1 (nV z4)) |>.cons (A := own a5 (storB 1 D).length c5 y15 1 (nV (storB 1 D)))
 have gD : Gv (own a5 (storB 1 D).length c5 y15 1 (nV (storB 1 D)) :: own (some ⟨b4, 0, none⟩) z4.length z4.length y15 1 (nV z4) :: own (some ⟨b3, 0, none⟩) z3.length z3.length y15 1 (nV z3) :: own oa D.length oc y15 1 (nV D) :: L) oa (nV D) := fun h H => (H.sel 4 [3] (by decide) : Hs h (own oa D.length oc y15 1 (nV D) :: L)).rd
 refine tok_step (k := 0) (Z := z3) T5 gD rfl hle (fun h H => (H.sel 4 [2] (by decide) : Hs h (own (some ⟨b3, 0, none⟩) z3.length z3.length y15 1 (nV z3) :: L)).rd) rfl (by simp) t3 (by omega) rfl H5 fun h6 H6 => ?_
 refine tok_step (k := 1) (Z := z4) T5 gD rfl hle (fun h H => (Hs.m1 H).rd) rfl (by simp) t4 (by omega) rfl H6 fun h7 H7 => ?_
 refine tok_step (k := 2) (Z := storB 1 D) T5 gD rfl hle (fun h H => H.rd) rfl (fun ha => H7.Own.none_zero ha) t5 (by omega) rfl H7 fun h8 H8 => ?_
 refine z357.L1_of (y5 (by decide) (z357.L1_X0 (y164 T5 H8 fun h9 H9 => ⟨_, rfl, k h9 (H9.sel 4 [] (by decide))⟩)))
end Go.Proofs.YtmkjmmpldepknaaDoor

set_option maxRecDepth 100000
namespace Go.Proofs.YtmkjmmpldepknaaDoor
open Go Go.HW Go.HW.Inf
variable {h : Heap} {Q : Value → Heap → Prop} {a : OA} {n c : Nat}
theorem open_tok {W : World} {ecs : List Value} (hl : ecs.length = 3) (g : Dat PP W y38 ecs) : ∃ x, ecs = tokV x ∧ TokWf x := by
 match ecs, hl with
 | [a, b, c], _ =>
  have f := g.fields
  rw [FL_api_Token] at f
  obtain ⟨n, e1, h1⟩ := (f (y15, 0, 1) (by simp)).u8 U_uint8
  obtain ⟨m, e2, h2⟩ := (f (y18, 1, 1) (by simp)).i64 U_int
  obtain ⟨k, e3, h3⟩ := (f (y18, 2, 1) (by simp)).i64 U_int
  cases e1; cases e2; cases e3
  exact ⟨⟨n, m, k⟩, rfl, h1, h2, h3⟩
structure LTab (h : Heap) : Prop where
 order : Rd h (some ⟨G_lens_order, 0, none⟩) (nI Inf.order)
 wide : Rd h (some ⟨G_lens_wide, 0, none⟩) (nI wides)
 frm : Rd h (some ⟨G_lens_from, 0, none⟩) (nI froms)
theorem LTab.tb (t : LTab h) : Tb [ro h] := ⟨Gv.ro t.order, Gv.ro t.wide, Gv.ro t.frm⟩
theorem TopTokens_spec {l : List Tok} (tab : LTab h) (hr : Rd h a (l.flatMap tokV)) (hn : l.length = n) (hw : ∀ t ∈ l, TokWf t) (HQ : ∀ h', ExtB h.size h h' → Q (.bool true) h') : SpecH PP z358 [.slice a n c] h Q :=
 TopTokens_hs tab.tb (Gv.ro hr) hn hw (Hs.start h) fun h2 H2 => HQ _ H2.ro_below
theorem TopUnpacks_spec {B : List Nat} {cuts : List Int} {limit : Int} {ca : OA} {cn cc : Nat} (tab : LTab h) (hr : Rd h a (nV B)) (hn : B.length = n) (hc : n ≤ c) (hy : a = none → c = 0) (hb : ∀ x ∈ B, x < 256) (hr2 : Rd h ca (cuts.map (Value.int .i64))) (hn2 : cuts.length = cn) (HQ : ∀ h', ExtB h.size h h' → Q (.bool true) h') :
  SpecH PP z360 [.slice a n c, .int .i64 limit, .slice ca cn cc] h Q :=
 TopUnpacks_hs tab.tb (Gv.ro hr) hn hc hy (Gv.ro hr2) hn2 hb (Hs.start h) fun h2 H2 => HQ _ H2.ro_below
theorem TopPacks_spec {D : List Nat} {cuts others : List Int} {ca oa : OA} {cn cc on oc : Nat} (tab : LTab h) (hr : Rd h a (nV D)) (hn : D.length = n) (hc : n ≤ c) (hy : a = none → c = 0) (hb : ∀ x ∈ D, x < 256) (hr1 : Rd h ca (cuts.map (Value.int .i64))) (hn1 : cuts.length = cn) (hr2 : Rd h oa (others.map (Value.int .i64))) (hn2 : others.length = on) (HQ : ∀ h', ExtB h.size h h' → Q (.bool true) h') :
  SpecH PP z356 [.slice a n c, .slice ca cn cc, .slice oa on oc] h Q :=
 TopPacks_hs tab.tb (Gv.ro hr) hn hc hy (Gv.ro hr1) hn1 (Gv.ro hr2) hn2 hb (Hs.start h) fun h2 H2 => HQ _ H2.ro_below
theorem laid_one {P : Program} {l : List (String × DataW Unit)} {W : World} (h : laidMetH P l W) (n : String) {d : DataW Unit} (e : (l.filter fun x => x.2.handleName?.isNone).filter (fun x => x.1 == n) = [(n, d)]) : laidMet P [(n, d)] W := by
 have := laidMet.filter (fun x => x.1 == n) ((laidMetH_iff.1 h).1)
 rwa [e] at this
theorem rd_tab {W : World} {name : String} {l : List Nat} {g : Nat} (t : Lib.TabIs PP W name .i64 (l.map fun x : Nat => (x : Int))) (hg : PP.globalNamed name = some g) : Rd W.heap (some ⟨g, 0, none⟩) (nI l) := by
 intro i v hv
 have hi : i < l.length := by
  rcases Nat.lt_or_ge i l.length with h | h
  ·exact h
  ·rw [List.getElem?_eq_none (by rw [y28]; exact h)] at hv; cases hv
 have := t.cell hg i (by simpa using hi)
 rw [cell_w] at this
 refine ⟨_, rfl, ?_⟩
 rw [nI_get hi] at hv
 injection hv with hv
 subst hv
 rw [y47, Nat.zero_add, this]
 simp [hi]
theorem tab_all {l : List (String × DataW Unit)} {W : World} (h : laidMetH PP l W)
  (e1 : (l.filter fun x => x.2.handleName?.isNone).filter (fun x => x.1 == "haversack/lens.order") = [("haversack/lens.order", Rows.laid_haversack_lens_order)])
  (e2 : (l.filter fun x => x.2.handleName?.isNone).filter (fun x => x.1 == "haversack/lens.wide") = [("haversack/lens.wide", Rows.laid_haversack_lens_wide)])
  (e3 : (l.filter fun x => x.2.handleName?.isNone).filter (fun x => x.1 == "haversack/lens.from") = [("haversack/lens.from", Rows.laid_haversack_lens_from)]) : LTab W.heap := by
 refine ⟨?_, ?_, ?_⟩
 ·exact rd_tab (Lib.tabIs_of_head (zs := Inf.order.map fun x : Nat => (x : Int)) (rest := []) (by kernel_rfl : PP.globalNamed "haversack/lens.order" = some G_lens_order) (by kernel_rfl : _ = some y98) U_19_int U_int (by kernel_rfl) C_19_int (laid_one h _ e1)) (by kernel_rfl)
 ·exact rd_tab (Lib.tabIs_of_head (zs := wides.map fun x : Nat => (x : Int)) (rest := []) (by kernel_rfl : PP.globalNamed "haversack/lens.wide" = some G_lens_wide) (by kernel_rfl : _ = some y98) U_19_int U_int (by kernel_rfl) C_19_int (laid_one h _ e2)) (by kernel_rfl)
 ·exact rd_tab (Lib.tabIs_of_head (zs := froms.map fun x : Nat => (x : Int)) (rest := []) (by kernel_rfl : PP.globalNamed "haversack/lens.from" = some G_lens_from) (by kernel_rfl : _ = some y98) U_19_int U_int (by kernel_rfl) C_19_int (laid_one h _ e3)) (by kernel_rfl)
def leafC : DataW Unit → List Value
 | .lit (.int k z) => [.int k z]
 | _ => []
def cellsD : DataW Unit → List Value
 | .agg l => l.flatMap leafC
 | _ => []
def putC (g : Nat) (cs : List Value) (h : Heap) : Heap := h.modify g fun
 | .cells _ t f => .cells cs.toArray t f
 | o => o
end Go.Proofs.YtmkjmmpldepknaaDoor

/- The finder: hash, know, match; and the document's Match. -/
import Derived.Test.YtaolpeimlkpkbaaFind0
set_option maxRecDepth 20000
set_option linter.unusedVariables false
set_option linter.unusedSimpArgs false
namespace Go.Proofs.Ytaolpeimlkpkbaa
open Go Go.HW
variable {h : Heap} {L : List Assn} {Q : Value → Heap → Prop}
def nI (l : List Nat) : List Value := l.map fun x : Nat => Value.int .i64 x
theorem nI_len (l : List Nat) : (nI l).length = l.length := List.length_map ..
theorem nI_get {l : List Nat} {j : Nat} (hj : j < l.length) : (nI l)[j]? = some (.int .i64 (l.getD j 0 : Nat)) := by simp [nI, hj]
theorem nI_set (l : List Nat) (j v : Nat) : (nI l).set j (.int .i64 (v : Int)) = nI (l.set j v) := by simp [nI, List.map_set]
theorem nI_rep (n : Nat) : nI (List.replicate n 0) = List.replicate n (.int .i64 0) := by simp [nI]
theorem nVd {l : List Nat} {j : Nat} (hj : j < l.length) : (nV l)[j]? = some (.int .u8 (l.getD j 0 : Nat)) := by simp [nV, hj]
theorem part_get {D : List Nat} {p j k : Nat} (hk : k < j) (hj : p + j ≤ D.length) : (nV ((D.drop p).take j))[k]? = some (.int .u8 (D.getD (p + k) 0 : Nat)) := by
  rw [nVd (by rw [List.length_take, List.length_drop]; omega)]
  simp [List.getD_eq_getElem?_getD, List.getElem?_take, hk]
theorem lit_lt {D : List Nat} (hb : ∀ x ∈ D, x < 256) (k : Nat) : D.getD k 0 < 256 := by
  rw [List.getD_eq_getElem?_getD]
  cases e : D[k]? with
  | none => simp
  | some y => exact hb y (List.mem_of_getElem? e)
def finV (dv : Value) (last : List Nat) (pv : Value) (dn : Nat) : List Value := dv :: (nI last ++ [pv, .int .i64 dn])
theorem fin_len {dv pv : Value} {last : List Nat} {dn : Nat} (hl : last.length = 4096) : (finV dv last pv dn).length = 4099 := by simp [finV, nI_len, hl]
theorem fin_0 {dv pv : Value} {last : List Nat} {dn : Nat} : (finV dv last pv dn)[0]? = some dv := rfl
theorem fin_j {dv pv : Value} {last : List Nat} {dn j : Nat} (hl : last.length = 4096) (hj : j < 4096) : (finV dv last pv dn)[1 + j]? = some (.int .i64 (last.getD j 0 : Nat)) := by
  rw [finV, Nat.add_comm 1 j, List.getElem?_cons_succ, List.getElem?_append_left (by rw [nI_len]; omega), nI_get (by omega)]
theorem fin_p {dv pv : Value} {last : List Nat} {dn : Nat} (hl : last.length = 4096) : (finV dv last pv dn)[4097]? = some pv := by
  rw [finV, List.getElem?_cons_succ, List.getElem?_append_right (by rw [nI_len]; omega), nI_len, hl]; rfl
theorem fin_d {dv pv : Value} {last : List Nat} {dn : Nat} (hl : last.length = 4096) : (finV dv last pv dn)[4098]? = some (.int .i64 dn) := by
  rw [finV, List.getElem?_cons_succ, List.getElem?_append_right (by rw [nI_len]; omega), nI_len, hl]; rfl
theorem fin_sd {dv pv : Value} {last : List Nat} {dn d2 : Nat} (hl : last.length = 4096) : (finV dv last pv dn).set 4098 (.int .i64 (d2 : Nat)) = finV dv last pv d2 := by
  rw [finV, List.set_cons_succ, List.set_append_right _ _ (by rw [nI_len]; omega), nI_len, hl]; rfl
theorem fin_sj {dv pv : Value} {last : List Nat} {dn j v : Nat} (hl : last.length = 4096) (hj : j < 4096) : (finV dv last pv dn).set (1 + j) (.int .i64 (v : Nat)) = finV dv (last.set j v) pv dn := by
  rw [finV, Nat.add_comm 1 j, List.set_cons_succ, List.set_append_left _ _ (by rw [nI_len]; omega), nI_set]; rfl
structure FInv (D last prev : List Nat) (dn : Nat) : Prop where
  ll : last.length = 4096
  pl : prev.length = D.length
  la : ∀ x, x < 4096 → last.getD x 0 = lb D x dn
  pr : ∀ p, p < dn → prev.getD p 0 = lb D (hf D p) p
  dn : dn = 0 ∨ dn + 2 ≤ D.length
  D : D.length ≤ 16384
theorem getD_set {l : List Nat} {i j v : Nat} (hi : i < l.length) : (l.set i v).getD j 0 = if i = j then v else l.getD j 0 := by
  simp only [List.getD_eq_getElem?_getD, List.getElem?_set]
  split
  · subst_vars; simp [hi]
  · rfl
theorem FInv.step {D last prev : List Nat} {dn : Nat} (F : FInv D last prev dn) (h : dn + 3 ≤ D.length) : FInv D (last.set (hf D dn) (dn + 1)) (prev.set dn (lb D (hf D dn) dn)) (dn + 1) where
  ll := by simp [F.ll]
  pl := by simp [F.pl]
  la := fun x hx => by
    rw [getD_set (by rw [F.ll]; exact hf_lt _ _), lb, F.la x hx]
  pr := fun p hp => by
    rw [getD_set (by rw [F.pl]; omega)]
    split
    · subst_vars; rfl
    · exact F.pr p (by omega)
  dn := .inr (by omega)
  D := F.D
theorem FInv.new {D : List Nat} (h : D.length ≤ 16384) : FInv D (List.replicate 4096 0) (List.replicate D.length 0) 0 where
  ll := List.length_replicate ..
  pl := List.length_replicate ..
  la := fun x hx => by rw [List.getD_eq_getElem?_getD, List.getElem?_replicate, if_pos hx]; rfl
  pr := fun p hp => by omega
  dn := .inl rfl
  D := h
theorem hash_hs {f n c p : Nat} {D : List Nat} {da : OA} {xs : List Value} (hb : ∀ x ∈ D, x < 256) (h0 : xs[0]? = some (.slice da n c)) (hr : Gv L da (nV D)) (hn : D.length = n) (hnc : n ≤ c) (hn0 : da = none → c = 0) (hp : p + 3 ≤ n) (hn2 : n ≤ 20000)
    (H : Hs h (pt f T_match_finder xs :: L)) (k : Q (.int .i64 (hf D p)) h) : SpecH PP F_match_finder_hash [.pointer (some ⟨f, 0, none⟩), .int .i64 p] h Q := by
  refine match_finder_hash.door ⟨_, _, _, H.cell (off := 0) h0, ?_⟩
  dsimp only
  rw [show IntKind.i64.wrap ((p : Int) + 3) = ((p + 3 : Nat) : Int) by rw [wrapI (by omega) (by omega)]; omega]
  refine bytes_cutG E_sl_uint8 hr hn hnc hn0 (by omega) (by omega) fun a2 c2 r2 n2 _ _ => ⟨_, _, _, rfl, ?_⟩
  rw [show p + 3 - p = 3 by omega] at r2 ⊢
  have g0 := lit_lt hb p; have g1 := lit_lt hb (p + 1); have g2 := lit_lt hb (p + 2)
  refine idx E_sl_uint8 (r2 _ H.tl) (by omega) (by omega) (part_get (by decide) (by omega)) fun t ht => ⟨_, ht, ?_⟩
  refine idx E_sl_uint8 (r2 _ H.tl) (by omega) (by omega) (part_get (by decide) (by omega)) fun t ht => ⟨_, ht, ?_⟩
  refine idx E_sl_uint8 (r2 _ H.tl) (by omega) (by omega) (part_get (by decide) (by omega)) fun t ht => ⟨_, ht, ?_⟩
  have e : bAnd .i64 (bXor .i64 (bXor .i64 (sShl .i64 (IntKind.i64.wrap (D.getD (p + Int.toNat 0) 0 : Nat)) 8) (sShl .i64 (IntKind.i64.wrap (D.getD (p + Int.toNat 1) 0 : Nat)) 4)) (IntKind.i64.wrap (D.getD (p + Int.toNat 2) 0 : Nat))) 4095 = (hf D p : Int) := by
    rw [show p + Int.toNat 0 = p from rfl, show p + Int.toNat 1 = p + 1 from rfl, show p + Int.toNat 2 = p + 2 from rfl]
    unfold hf
    generalize D.getD p 0 = x at g0 ⊢
    generalize D.getD (p + 1) 0 = y at g1 ⊢
    generalize D.getD (p + 2) 0 = z at g2 ⊢
    rw [wrapI (by omega) (by omega), wrapI (by omega) (by omega), wrapI (by omega) (by omega)]
    have s8 : sShl .i64 (x : Int) 8 = ((x <<< 8 : Nat) : Int) := by rw [Nat.shiftLeft_eq]; exact shl_i64 (m := 8) (by omega) (by omega)
    have s4 : sShl .i64 (y : Int) 4 = ((y <<< 4 : Nat) : Int) := by rw [Nat.shiftLeft_eq]; exact shl_i64 (m := 4) (by omega) (by omega)
    have b8 : x <<< 8 < 2 ^ 62 := by rw [Nat.shiftLeft_eq]; omega
    have b4 : y <<< 4 < 2 ^ 62 := by rw [Nat.shiftLeft_eq]; omega
    rw [s8, s4, xor_i64 (by omega) (by omega)]
    have b2 : x <<< 8 ^^^ y <<< 4 < 2 ^ 62 := Nat.xor_lt_two_pow b8 b4
    rw [xor_i64 (by omega) (by omega)]
    have b3 : (x <<< 8 ^^^ y <<< 4) ^^^ z < 2 ^ 62 := Nat.xor_lt_two_pow b2 (by omega)
    exact and_i64 (b := 4095) (by omega) (by omega)
  rw [e]
  exact k
theorem at_d {f : Nat} : Addr.add ⟨f, 0, none⟩ 4098 = ⟨f, 4098, none⟩ := by rw [add_mk]
theorem at_p {f : Nat} : Addr.add ⟨f, 0, none⟩ 4097 = ⟨f, 4097, none⟩ := by rw [add_mk]
theorem at_1 {f : Nat} : Addr.add ⟨f, 0, none⟩ 1 = ⟨f, 1, none⟩ := by rw [add_mk]
theorem know_hs {f n c to dn pc : Nat} {D last prev : List Nat} {da pa : OA} (hb : ∀ x ∈ D, x < 256) (hr : Gv L da (nV D)) (hn : D.length = n) (hnc : n ≤ c) (hn0 : da = none → c = 0) (F : FInv D last prev dn) (ht : to + 3 ≤ n) (hdt : dn ≤ to)
    (H : Hs h (pt f T_match_finder (finV (.slice da n c) last (.slice pa n pc) dn) :: own pa n pc T_int 1 (nI prev) :: L))
    (k : ∀ h' last' prev', FInv D last' prev' to → Hs h' (pt f T_match_finder (finV (.slice da n c) last' (.slice pa n pc) to) :: own pa n pc T_int 1 (nI prev') :: L) → Q (.tuple #[]) h') :
    SpecH PP F_match_finder_know [.pointer (some ⟨f, 0, none⟩), .int .i64 to] h Q := by
  refine match_finder_know.door ?_
  have hn2 : n ≤ 16384 := hn ▸ F.D
  have go : ∀ (r dn : Nat) {h : Heap} {last prev : List Nat}, r + dn = to → FInv D last prev dn → Hs h (pt f T_match_finder (finV (.slice da n c) last (.slice pa n pc) dn) :: own pa n pc T_int 1 (nI prev) :: L) → match_finder_know.L1 (some ⟨f, 0, none⟩) to (match_finder_know.K1 Q) h := by
    intro r
    induction r with
    | zero =>
      intro dn h last prev hd F H
      refine match_finder_know.L1_of ?_
      dsimp only [nilc]
      simp only [at_d]
      have c := H.cell (off := 4098) (fin_d F.ll)
      refine ⟨_, c, ?_⟩
      refine br_false (decide_eq_false (by omega)) ?_
      refine match_finder_know.L1_X0 ?_
      obtain rfl : dn = to := by omega
      exact k h last prev F H
    | succ r ih =>
      intro dn h last prev hd F H
      refine match_finder_know.L1_of ?_
      dsimp only [nilc]
      simp only [at_1, at_p, at_d]
      refine ⟨_, H.cell (off := 4098) (fin_d F.ll), br_true (decide_eq_true (by omega)) ⟨_, H.cell (off := 4098) (fin_d F.ll), ?_⟩⟩
      rw [wrapI (x := (dn : Int) + 3) (by omega) (by omega)]
      refine ⟨_, _, _, H.cell (off := 0) fin_0, br_true (decide_eq_true (by omega)) ⟨_, H.cell (off := 4098) (fin_d F.ll), ?_⟩⟩
      refine hash_hs hb fin_0 hr.cons hn hnc hn0 (by omega) (by omega) H ⟨_, rfl, _, _, _, H.cell (off := 4097) (fin_p F.ll), _, H.cell (off := 4098) (fin_d F.ll), ?_⟩
      have hx := hf_lt D dn
      have cj := H.cell (off := 1 + hf D dn) (fin_j F.ll hx) rfl
      refine aio (off := 1) A_4096_int hx ⟨_, cj, ?_⟩
      refine H.m1.idx_set E_sl_int (by omega) (by omega) rfl fun h4 H4 => ⟨_, H4.m1.cell (off := 4098) (fin_d F.ll), ?_⟩
      rw [wrapI (by omega) (by omega)]
      refine aio (off := 1) A_4096_int hx ?_
      refine H4.m1.sto (off := 1 + hf D dn) (by rw [fin_len F.ll]; omega) fun h6 H6 => ?_
      rw [show ((dn : Int) + 1) = ((dn + 1 : Nat) : Int) by omega, fin_sj F.ll hx, Int.toNat_natCast, F.la _ hx, nI_set] at H6
      have F2 := F.step (by omega)
      refine ⟨_, H6.cell (off := 4098) (fin_d F2.ll), ?_⟩
      rw [wrapI (by omega) (by omega)]
      refine H6.sto (off := 4098) (by rw [fin_len F2.ll]; omega) fun h7 H7 => ?_
      rw [show ((dn : Int) + 1) = ((dn + 1 : Nat) : Int) by omega, fin_sd F2.ll] at H7
      exact ih (dn + 1) (by omega) F2 H7
  exact go (to - dn) dn (by omega) F H
theorem lcp_def {D : List Nat} {i p : Nat} : mt D i p 258 0 = lcp D i p := by unfold lcp; with_reducible rfl
theorem bst_one {D : List Nat} {i a : Nat} (ha : a < i) : bst D i (i - a) = if 3 ≤ lcp D i a ∧ lcp D i a > (bst D i (i - (a + 1))).1 then (lcp D i a, i - a) else bst D i (i - (a + 1)) := by
  rw [show i - a = i - (a + 1) + 1 by omega, bst, show i - (i - (a + 1) + 1) = a by omega]
theorem match_hs {f n c i dn pc : Nat} {D last prev : List Nat} {da pa : OA} (hb : ∀ x ∈ D, x < 256) (hr : Gv L da (nV D)) (hn : D.length = n) (hnc : n ≤ c) (hn0 : da = none → c = 0) (F : FInv D last prev dn) (hi : i ≤ n) (hdi : dn ≤ i)
    (H : Hs h (pt f T_match_finder (finV (.slice da n c) last (.slice pa n pc) dn) :: own pa n pc T_int 1 (nI prev) :: L))
    (k : ∀ h' last' prev' dn', FInv D last' prev' dn' → dn' ≤ i → Hs h' (pt f T_match_finder (finV (.slice da n c) last' (.slice pa n pc) dn') :: own pa n pc T_int 1 (nI prev') :: L) → Q (.tuple #[.int .i64 (mm D i).1, .int .i64 (mm D i).2]) h') :
    SpecH PP F_match_finder_match [.pointer (some ⟨f, 0, none⟩), .int .i64 i] h Q := by
  have hn2 : n ≤ 16384 := hn ▸ F.D
  refine match_finder_match.door ?_
  dsimp only [nilc]
  rw [wrapI (x := (i : Int) + 3) (by omega) (by omega)]
  refine ⟨_, _, _, H.cell (off := 0) fin_0, (br_iff _ _ _).2 ⟨fun e => ?_, fun e => ?_⟩⟩
  · have e := of_decide_eq_true e
    have := k h last prev dn F hdi H
    rw [mm_short (by omega)] at this
    exact this
  have e := of_decide_eq_false e
  refine know_hs hb hr hn hnc hn0 F (by omega) hdi H fun h1 last1 prev1 F1 H1 => ⟨rfl, _, _, _, H1.cell (off := 0) fin_0, ?_⟩
  rw [wrapI (x := (n : Int) - i) (by omega) (by omega)]
  generalize hE : (if (n : Int) - i < 258 then (n : Int) - i else 258) = E
  obtain ⟨en, rfl⟩ := Int.eq_ofNat_of_zero_le (show 0 ≤ E by split at hE <;> omega)
  have hen : en ≤ 258 ∧ i + en ≤ n ∧ 3 ≤ en ∧ (en = 258 ∨ i + en = n) := by split at hE <;> omega
  refine hash_hs hb fin_0 hr.cons hn hnc hn0 (by omega) (by omega) H1 ⟨_, rfl, ?_⟩
  have hx := hf_lt D i
  simp only [at_1]
  refine aio (off := 1) A_4096_int hx ⟨_, H1.cell (off := 1 + hf D i) (fin_j F1.ll hx), ?_⟩
  rw [F1.la _ hx]
  have capped : ∀ p, lcp D i p ≤ en := fun p => by
    have h1 := lcp_le D i p
    have h2 := lcp_len (D := D) (i := i) (p := p) (by omega)
    omega
  have fin : ∀ {x : Nat × Nat}, mm D i = x → Q (.tuple #[.int .i64 x.1, .int .i64 x.2]) h1 := fun e => e ▸ k h1 last1 prev1 i F1 (Nat.le_refl _) H1
  have go : ∀ (m P : Nat), P ≤ m → P ≤ i → match_finder_match.L1 (some ⟨f, 0, none⟩) i (bst D i (i - P)).1 (bst D i (i - P)).2 en (IntKind.i64.wrap ((lb D (hf D i) P : Int) - 1)) (match_finder_match.K1 Q) h1 := by
    intro m
    induction m with
    | zero =>
      intro P hP hPi
      obtain rfl : P = 0 := by omega
      refine match_finder_match.L1_of (br_false (decide_eq_false (by rw [wrapI (by simp [lb]) (by simp [lb])]; simp [lb])) (match_finder_match.L1_X0 (fin rfl)))
    | succ m ih =>
      intro P hP hPi
      have hl := lb_le D (hf D i) P
      rw [wrapI (by omega) (by omega)]
      refine match_finder_match.L1_of ?_
      dsimp only
      refine (br_iff _ _ _).2 ⟨fun e => ?_, fun e => match_finder_match.L1_X0 (fin ?_)⟩
      · have e := of_decide_eq_true e
        obtain ⟨a, ha⟩ : ∃ a, lb D (hf D i) P = a + 1 := ⟨lb D (hf D i) P - 1, by omega⟩
        have hh := lb_hf ha
        have hg := bst_gap (D := D) hPi (a := a + 1) (by omega) (by omega)
        rw [ha, show ((a + 1 : Nat) : Int) - 1 = (a : Int) by omega, ← hg, wrapI (x := (i : Int) - a) (by omega) (by omega)]
        refine br_false (decide_eq_false (by omega)) ?_
        have q1 := bst_one (D := D) (i := i) (a := a) (by omega)
        have nxt : ∀ {x : Nat × Nat}, bst D i (i - a) = x → match_finder_match.K2 (match_finder_match.K1 Q) (.exit 1) (match_finder_match.X1 (some ⟨f, 0, none⟩) i x.1 x.2 en a) h1 := by
          rintro x rfl
          refine match_finder_match.L2_X1 ?_
          dsimp only [nilc]
          simp only [at_p]
          refine ⟨_, _, _, H1.cell (off := 4097) (fin_p F1.ll), ?_⟩
          refine idx E_sl_int (H1.m1.rd) (by omega) (by omega) (by rw [Int.toNat_natCast]; exact nI_get (by rw [F1.pl]; omega)) fun t ht => ⟨_, ht, ?_⟩
          rw [F1.pr a (by omega), hh]
          exact ih a (by omega) (by omega)
        have inn : ∀ (r k : Nat), r + k = en → (∀ j, j < k → i + j < D.length ∧ D.getD (i + j) 0 = D.getD (a + j) 0) →
            match_finder_match.L2 (some ⟨f, 0, none⟩) i (bst D i (i - (a + 1))).1 (bst D i (i - (a + 1))).2 en a en k (match_finder_match.K2 (match_finder_match.K1 Q)) h1 := by
          intro r
          induction r with
          | zero =>
            intro k hk hj
            obtain rfl : k = en := by omega
            have hc : lcp D i a = k := lcp_is hen.1 hj (by rcases hen.2.2.2 with h | h; exact .inl h; exact .inr (by omega))
            refine match_finder_match.L2_of (br_false (decide_eq_false (by omega)) (match_finder_match.L2_X2 ?_))
            dsimp only
            refine (br_iff _ _ _).2 ⟨fun e => match_finder_match.L1_Xret ?_, fun e => match_finder_match.L1_X0 (fin ?_)⟩
            · have e := of_decide_eq_true e
              rw [wrapI (by omega) (by omega), show (i : Int) - a = ((i - a : Nat) : Int) by omega]
              rw [if_pos (by omega), hc] at q1
              refine fin (x := (k, i - a)) ?_
              rw [← q1]
              exact bst_skip (by omega) fun d _ _ => .inr (by rw [q1]; exact capped _)
            · have e := of_decide_eq_false e
              exact bst_skip (by omega) fun d _ _ => .inr (by have := capped (i - d); omega)
          | succ r ih2 =>
            intro k hk hj
            refine match_finder_match.L2_of ?_
            dsimp only [nilc]
            rw [wrapI (x := (a : Int) + k) (by omega) (by omega), wrapI (x := (i : Int) + k) (by omega) (by omega)]
            refine br_true (decide_eq_true (by omega)) ⟨_, _, _, H1.cell (off := 0) fin_0, ?_⟩
            refine idx E_sl_uint8 (hr _ H1.tl.tl) (by omega) (by omega) (nVd (by omega)) fun t ht => ⟨_, ht, _, _, _, H1.cell (off := 0) fin_0, ?_⟩
            refine idx E_sl_uint8 (hr _ H1.tl.tl) (by omega) (by omega) (nVd (by omega)) fun t ht => ⟨_, ht, ?_⟩
            rw [show ((a : Int) + k).toNat = a + k by omega, show ((i : Int) + k).toNat = i + k by omega]
            refine (br_iff _ _ _).2 ⟨fun e => ?_, fun e => ?_⟩
            · have e : D.getD (a + k) 0 ≠ D.getD (i + k) 0 := fun q => (bne_iff_ne.1 e) (by rw [q])
              have hc : lcp D i a = k := lcp_is (by omega) hj (.inr fun h => e h.2.symm)
              have fj : ∀ b : Bool, decide (3 ≤ k ∧ k > (bst D i (i - (a + 1))).1) = b → match_finder_match.J1 (some ⟨f, 0, none⟩) i (bst D i (i - (a + 1))).1 (bst D i (i - (a + 1))).2 en a k b (match_finder_match.K2 (match_finder_match.K1 Q)) h1 := by
                rintro b rfl
                rw [hc] at q1
                refine match_finder_match.J1_of ((br_iff _ _ _).2 ⟨fun e => ?_, fun e => ?_⟩)
                · rw [if_pos (of_decide_eq_true e)] at q1
                  dsimp only
                  rw [wrapI (by omega) (by omega), show (i : Int) - a = ((i - a : Nat) : Int) by omega]
                  exact nxt q1
                · rw [if_neg (of_decide_eq_false e)] at q1
                  exact nxt q1
              refine (br_iff _ _ _).2 ⟨fun e => fj _ ?_, fun e => fj _ ?_⟩
              · have e := of_decide_eq_true e
                exact decide_eq_decide.2 (by omega)
              · have e := of_decide_eq_false e
                exact decide_eq_false (by omega)
            · have e : D.getD (a + k) 0 = D.getD (i + k) 0 := Int.ofNat_inj.1 (bne_eq_false_iff_eq.1 e)
              rw [wrapI (by omega) (by omega)]
              refine ih2 (k + 1) (by omega) fun j hj2 => ?_
              by_cases ej : j = k
              · subst ej; exact ⟨by omega, e.symm⟩
              · exact hj j (by omega)
        exact inn en 0 (by omega) (fun j h => by omega)
      · have e := of_decide_eq_false e
        have := bst_gap (D := D) hPi (a := 0) (by omega) (by omega)
        exact this
  have := go i i (Nat.le_refl _) (Nat.le_refl _)
  rw [Nat.sub_self] at this
  exact this
/-! The document's Match. -/
theorem RMatch_hs {n c i : Nat} {D : List Nat} {da : OA} (hr : Gv L da (nV D)) (hn : D.length = n) (hn2 : n ≤ 20000) (hi : i ≤ n) (H : Hs h L)
    (k : ∀ h', Hs h' L → Q (.tuple #[.int .i64 (mm D i).1, .int .i64 (mm D i).2]) h') : SpecH PP F_ref06_Match [.slice da n c, .int .i64 i] h Q := by
  refine ref06_Match.door ?_
  have fin : ∀ {x : Nat × Nat}, mm D i = x → Q (.tuple #[.int .i64 x.1, .int .i64 x.2]) h := fun e => e ▸ k h H
  have go : ∀ (r d : Nat), r + d = i → ref06_Match.L1 da n c i (bst D i d).1 (bst D i d).2 ((d + 1 : Nat) : Int) (ref06_Match.K1 Q) h := by
    intro r
    induction r with
    | zero =>
      intro d hd
      obtain rfl : d = i := by omega
      exact ref06_Match.L1_of (br_false (decide_eq_false (by omega)) (ref06_Match.L1_X0 (fin rfl)))
    | succ r ih =>
      intro d hd
      refine ref06_Match.L1_of ?_
      dsimp only
      have e1 : ((d + 1 : Nat) : Int) ≤ i := by omega
      have e2 : ((d + 1 : Nat) : Int) ≤ 32768 := by omega
      rw [decide_eq_true e1, decide_eq_true e2]
      refine br_true rfl (br_true rfl ((br_iff _ _ _).2 ⟨fun e => ?_, fun e => ref06_Match.L1_X0 (fin ?_)⟩))
      · have nxt : ∀ b : Bool, ∀ k, lcp D i (i - (d + 1)) = k → decide (3 ≤ k ∧ k > (bst D i d).1) = b → ref06_Match.J1 da n c i (bst D i d).1 (bst D i d).2 ((d + 1 : Nat) : Int) k b (ref06_Match.K1 Q) h := by
          rintro b k rfl rfl
          have ih := ih (d + 1) (by omega)
          rw [bst] at ih
          refine ref06_Match.J1_of ((br_iff _ _ _).2 ⟨fun e => ref06_Match.J2_of ?_, fun e => ref06_Match.J2_of ?_⟩)
          · rw [if_pos (of_decide_eq_true e)] at ih
            dsimp only
            rw [wrapI (by omega) (by omega)]
            exact ih
          · rw [if_neg (of_decide_eq_false e)] at ih
            dsimp only
            rw [wrapI (by omega) (by omega)]
            exact ih
        have stop : ∀ k, lcp D i (i - (d + 1)) = k → ref06_Match.K2 (ref06_Match.K1 Q) (.exit 2) (ref06_Match.X2 da n c i (bst D i d).1 (bst D i d).2 ((d + 1 : Nat) : Int) k) h := fun k hk => by
          refine ref06_Match.L2_X2 ?_
          dsimp only
          refine (br_iff _ _ _).2 ⟨fun e => nxt _ k hk ?_, fun e => nxt _ k hk ?_⟩
          · have e := of_decide_eq_true e
            exact decide_eq_decide.2 (by omega)
          · have e := of_decide_eq_false e
            exact decide_eq_false (by omega)
        have inn : ∀ (r k : Nat), r + k = 258 → mt D i (i - (d + 1)) r k = lcp D i (i - (d + 1)) → ref06_Match.L2 da n c i (bst D i d).1 (bst D i d).2 ((d + 1 : Nat) : Int) k (ref06_Match.K2 (ref06_Match.K1 Q)) h := by
          intro r
          induction r with
          | zero =>
            intro k hk hm
            exact ref06_Match.L2_of (br_false (decide_eq_false (by omega)) (stop _ hm.symm))
          | succ r ih2 =>
            intro k hk hm
            refine ref06_Match.L2_of ?_
            dsimp only
            rw [mt] at hm
            rw [wrapI (x := (i : Int) + k) (by omega) (by omega), wrapI (x := (i : Int) + k - _) (by omega) (by omega)]
            refine br_true (decide_eq_true (by omega)) ((br_iff _ _ _).2 ⟨fun e1 => ?_, fun e1 => ?_⟩)
            · have e1 := of_decide_eq_true e1
              refine idx E_sl_uint8 (hr _ H) (by omega) (by omega) (nVd (by omega)) fun t ht => ⟨_, ht, ?_⟩
              refine idx E_sl_uint8 (hr _ H) (by omega) (by omega) (nVd (by omega)) fun t ht => ⟨_, ht, ?_⟩
              rw [show ((i : Int) + k).toNat = i + k by omega, show ((i : Int) + k - ((d + 1 : Nat) : Int)).toNat = i - (d + 1) + k by omega]
              refine (br_iff _ _ _).2 ⟨fun e => ?_, fun e => ?_⟩
              · have e : D.getD (i + k) 0 = D.getD (i - (d + 1) + k) 0 := Int.ofNat_inj.1 (beq_iff_eq.1 e)
                rw [if_pos ⟨by omega, e⟩] at hm
                rw [wrapI (by omega) (by omega)]
                exact ih2 (k + 1) (by omega) hm
              · have e : D.getD (i + k) 0 ≠ D.getD (i - (d + 1) + k) 0 := fun q => (beq_eq_false_iff_ne.1 e) (by rw [q])
                rw [if_neg fun h => e h.2] at hm
                exact stop _ hm.symm
            · have e1 := of_decide_eq_false e1
              rw [if_neg (by omega)] at hm
              exact stop _ hm.symm
        exact inn 258 0 (by omega) lcp_def
      · have e := of_decide_eq_false e
        exact bst_skip (by omega) fun d _ _ => .inr (by have := lcp_le D i (i - d); omega)
  exact go i 0 (by omega)
end Go.Proofs.Ytaolpeimlkpkbaa

/- The laws of digests: the examples; Same. -/
import Derived.Test.YtjliiiejcalglaaDoorRMac
import Derived.Test.YtjliiiejcalglaaDoorHwBs
set_option linter.unusedVariables false
set_option linter.unusedSimpArgs false
namespace Go.Proofs.YtjliiiejcalglaaDoor
open Go Go.HW Go.HW.Sha
variable {h : Heap} {L : List Assn} {Q : Value → Heap → Prop}
theorem e032 : (Array.replicate 32 (Value.int .u8 0)) = (nV (List.replicate 32 0)).toArray := by rw [← Array.toList_inj, nV_rep]; simp
theorem g32 : PP.eqGuardType PP.depth T_32_uint8 = false := by kernel_rfl
/-- An array of 32 bytes is laid into a variable of its own. -/
theorem lay32 {d : List Nat} {K : Heap → Prop} (hd : d.length = 32) (H : Hs h L) (kk : ∀ h', Hs h' (pt h.size T_32_uint8 (nV d) :: L) → K h') : br (decide (Array.size (List.toArray (nV d)) = 32)) (wrCells ⟨h.size, 0, none⟩ 0 (nV d) K (h.push (.cells (Array.replicate 32 (.int .u8 0)) T_32_uint8 (0, 0)))) False :=
  br_true (by simp [nV_len, hd]) ((H.new (t := T_32_uint8) (cs := Array.replicate 32 (.int .u8 0)) (xs := nV (List.replicate 32 0)) e032).wrs kk (by rw [nV_len, nV_len, hd, List.length_replicate]) (nV_one _))
theorem begins_spec {d : List Nat} {a b c e : Nat} (hd : d.length = 32) (h4 : d.take 4 = [a, b, c, e]) (H : Hs h L) (kk : ∀ h', Hs h' L → Q (.bool true) h') : SpecH PP F_law15_begins [.agg (nV d).toArray, .int .u8 a, .int .u8 b, .int .u8 c, .int .u8 e] h Q := by
  refine law15_begins.door ?_
  have H1 := H.new (t := T_32_uint8) (cs := (nV d).toArray) (xs := nV d)
  have g : ∀ i, i < 4 → (nV d)[i]? = ([a, b, c, e][i]?).map fun x : Nat => .int .u8 (x : Int) := by
    intro i hi
    rw [← h4]; simp [nV, hi, List.getElem?_take]
  refine ai (j := 0) A_32_uint8 (by omega) ⟨_, H1.cell (off := 0) (g 0 (by omega)), br_true (by simp) ?_⟩
  refine ai (j := 1) A_32_uint8 (by omega) ⟨_, H1.cell (off := 1) (g 1 (by omega)), br_true (by simp) ?_⟩
  refine ai (j := 2) A_32_uint8 (by omega) ⟨_, H1.cell (off := 2) (g 2 (by omega)), br_true (by simp) ?_⟩
  refine ai (j := 3) A_32_uint8 (by omega) ⟨_, H1.cell (off := 3) (g 3 (by omega)), ?_⟩
  rw [show ((e : Int) == (e : Int)) = true by simp]
  exact kk _ H1.tl
theorem awake_spec (t : KTabL L) (H : Hs h L) (kk : ∀ h', Hs h' L → Q (.bool true) h') : SpecH PP F_law15_awake [] h Q := by
  refine law15_awake.door ?_
  refine New_spec H fun h1 d H1 => ⟨_, rfl, br_false rfl ?_⟩
  have H2 := H1.new (t := T_uint8) (cs := #[.int .u8 97]) (xs := nV [97])
  refine H2.conv U_sl_uint8 U_uint8 fun h3 H3 => ⟨_, _, _, rfl, ?_⟩
  refine Write_spec (xs := [97]) t.cons Gv.rdO rfl (fun e => nomatch e) (by simp) (by decide) H3.m1 fun h4 H4 => ⟨rfl, ?_⟩
  refine HSum_spec t.cons (by decide) H4 fun h5 H5 => ⟨_, rfl, ?_⟩
  refine lay32 (digest_len _) H5 fun h6 H6 => ?_
  have H7 := H6.new (t := T_uint8) (cs := #[.int .u8 98, .int .u8 99]) (xs := nV [98, 99])
  refine H7.conv U_sl_uint8 U_uint8 fun h8 H8 => ⟨_, _, _, rfl, ?_⟩
  refine Write_spec (xs := [98, 99]) t.cons.cons.cons Gv.rdO rfl (fun e => nomatch e) (by simp) (by decide) H8.m2 fun h9 H9 => ⟨rfl, ?_⟩
  refine HSum_spec t.cons.cons.cons (by decide) H9 fun h10 H10 => ⟨_, rfl, ?_⟩
  refine lay32 (digest_len _) H10 fun h11 H11 => ?_
  -- [two, hash, lit, one, lit, L]
  refine Sum_spec (xs := []) t.cons.cons.cons.cons.cons (fun h _ => Rd.nil h _) rfl (fun _ => rfl) (by simp) (by decide) H11 fun h12 H12 => ⟨_, rfl, ?_⟩
  refine begins_spec (a := 227) (b := 176) (c := 196) (e := 66) (digest_len _) d0 H12 fun h13 H13 => ⟨_, rfl, br_true rfl ?_⟩
  refine ⟨_, by rw [nV_len]; exact digest_len [97], H13.m3.rdc0, ?_⟩
  refine begins_spec (a := 202) (b := 151) (c := 129) (e := 18) (digest_len _) d1 H13 fun h14 H14 => ⟨_, rfl, br_true rfl ?_⟩
  refine ⟨_, by rw [nV_len]; exact digest_len [97, 98, 99], H14.rdc0, ?_⟩
  refine begins_spec (a := 186) (b := 120) (c := 22) (e := 191) (digest_len _) d3 H14 fun h15 H15 => ⟨_, rfl, br_true rfl ?_⟩
  refine Mac_spec (xs := []) (k := []) t.cons.cons.cons.cons.cons (fun h _ => Rd.nil h _) rfl (fun _ => rfl) (by simp) (by decide) (fun h _ => Rd.nil h _) rfl (fun _ => rfl) (by simp) (by decide) H15 fun h16 H16 => ⟨_, rfl, ?_⟩
  exact begins_spec (a := 182) (b := 19) (c := 103) (e := 154) (digest_len _) m0 H16 fun h17 H17 => ⟨_, rfl, kk h17 H17.tl.tl.tl.tl.tl⟩
theorem HSame_spec {a b : List Nat} (ha : a.length = 32) (hb : b.length = 32) (H : Hs h L) (kk : ∀ h', Hs h' L → Q (.bool (decide (a = b))) h') : SpecH PP F_hmac_Same [.agg (nV a).toArray, .agg (nV b).toArray] h Q := by
  refine hmac_Same.door ?_
  have H1 := H.new (t := T_32_uint8) (cs := (nV a).toArray) (xs := nV a)
  have H2 := H1.new (t := T_32_uint8) (cs := (nV b).toArray) (xs := nV b)
  refine ⟨_, by rw [nV_len]; exact ha, H2.m1.rdc0, _, by rw [nV_len]; exact hb, H2.rdc0, ?_⟩
  exact arrEq A_32_uint8 U_uint8 g32 ha hb ⟨_, rfl, kk _ H2.tl.tl⟩
section
variable {ab bb : Nat} {a b : List Nat} {K : EP}
theorem same_loop {h0 : Heap} (ha : a.length = 32) (hb : b.length = 32) (H : Hs h [pt bb T_32_uint8 (nV b), pt ab T_32_uint8 (nV a), ro h0]) (kk : K (.exit 0) (law15_HmacSame.X0 ⟨ab, 0, none⟩ ⟨bb, 0, none⟩ none (decide (a = b))) h) :
    ∀ (k i : Nat), i + k = 32 → law15_HmacSame.L1 ⟨ab, 0, none⟩ ⟨bb, 0, none⟩ none (decide (a.take i = b.take i)) i K h := by
  intro k
  induction k with
  | zero =>
    intro i hi
    obtain rfl : i = 32 := by omega
    rw [List.take_of_length_le (by omega), List.take_of_length_le (by omega)]
    exact law15_HmacSame.L1_of (br_false rfl kk)
  | succ k ih =>
    intro i hi
    have hia : i < a.length := by omega
    have hib : i < b.length := by omega
    have wi : IntKind.i64.wrap ((i : Int) + 1) = ((i + 1 : Nat) : Int) := inc (by omega)
    have N := ih (i + 1) (by omega)
    refine law15_HmacSame.L1_of (br_true (decide_eq_true (by omega)) ((br_iff _ _ _).2 ⟨fun e => ?_, fun e => ?_⟩))
    · have e := of_decide_eq_true e
      refine ai (j := i) A_32_uint8 (by omega) ⟨_, H.m1.cell (off := i) (nV_get hia), ?_⟩
      refine ai (j := i) A_32_uint8 (by omega) ⟨_, H.cell (off := i) (nV_get hib), law15_HmacSame.J1_of ?_⟩
      simp only [wi]
      have : (((a[i] : Nat) : Int) == ((b[i] : Nat) : Int)) = decide (a.take (i + 1) = b.take (i + 1)) := by
        rw [List.take_succ_eq_append_getElem hia, List.take_succ_eq_append_getElem hib, e]
        by_cases hab : a[i] = b[i]
        · simp [hab]
        · have : ((a[i] : Nat) : Int) ≠ ((b[i] : Nat) : Int) := by omega
          rw [decide_eq_false (fun hc => hab (by have := List.append_cancel_left hc; simpa only [List.cons.injEq, and_true] using this))]
          simpa using this
      rw [this]; exact N
    · have e := of_decide_eq_false e
      refine law15_HmacSame.J1_of ?_
      simp only [wi]
      rw [decide_eq_false (fun hc => e (by have := congrArg (List.take i) hc; rwa [List.take_take, List.take_take, Nat.min_eq_left (by omega)] at this))] at N
      exact N
end
theorem HmacSame_spec {a b : List Nat} (tab : KTab h) (ha : a.length = 32) (hb : b.length = 32) (HQ : ∀ h', ExtB h.size h h' → Q (.bool true) h') : SpecH PP F_law15_HmacSame [.agg (nV a).toArray, .agg (nV b).toArray] h Q := by
  refine law15_HmacSame.door ?_
  have t : KTabL [ro h] := KTabL.ro tab
  have H1 := (Hs.start h).new (t := T_32_uint8) (cs := (nV a).toArray) (xs := nV a)
  have H2 := H1.new (t := T_32_uint8) (cs := (nV b).toArray) (xs := nV b)
  refine slArr A_32_uint8 ⟨_, _, _, rfl, Write_nil ⟨rfl, ?_⟩⟩
  refine same_loop (K := law15_HmacSame.K1 Q) ha hb H2 ?_ 32 0 (by omega)
  refine law15_HmacSame.L1_X0 ?_
  refine awake_spec t.cons.cons H2 fun h3 H3 => ⟨_, rfl, br_true rfl ?_⟩
  refine ⟨_, by rw [nV_len]; exact ha, H3.m1.rdc0, _, by rw [nV_len]; exact hb, H3.rdc0, ?_⟩
  refine HSame_spec ha hb H3 fun h4 H4 => ⟨_, rfl, br_true (by simp) ?_⟩
  refine ⟨_, by rw [nV_len]; exact ha, H4.m1.rdc0, _, by rw [nV_len]; exact ha, H4.m1.rdc0, ?_⟩
  refine HSame_spec ha ha H4 fun h5 H5 => ⟨_, rfl, br_true (by simp) ?_⟩
  refine HSum_nil H5 fun h6 H6 => ⟨_, rfl, ?_⟩
  refine arrEq (b := List.replicate 32 0) A_32_uint8 U_uint8 g32 rfl rfl ⟨_, rfl, ?_⟩
  rw [decide_eq_true rfl]
  exact HQ _ H6.tl.tl.ro_below
end Go.Proofs.YtjliiiejcalglaaDoor

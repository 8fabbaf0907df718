/- Texts of the proof, laid together: The document's store: keys, List, Last.; The document's store: Last, Put, Prune.; The document's store: Prune.; The document's store: Dump, Same; rows of texts.; The two stores are alike (plain).; The law's examples, large, built, a call's arguments.; The law Runs.; The laws Stays and Prunes.; The law Prunes; a store that is not there.; The law Dumps.; The laws Dumps and Nil.; The law Nil.; Arguments opened: keys, boxes, writes, commits.; Arguments opened: calls. -/
import Derived.Test.YtjkfngolgjbakaaP4
import Derived.Test.YtjkfngolgjbakaaP2
set_option maxRecDepth 20000
set_option linter.unusedVariables false
set_option linter.unusedSimpArgs false
namespace Go.Proofs.Ytjkfngolgjbakaa
open Go Go.HW
variable {h : Heap} {L : List Assn} {Q : Value → Heap → Prop}
theorem rget_mem {v : RS} {k : Key} {t : Int} (h : (v.get k t).2 = true) : ∃ x ∈ v.l, x.k = k := by
  unfold RS.get at h
  by_cases e : ∃ x ∈ v.l, x.k = k
  · exact e
  · have : v.vs k = [] := by
      unfold RS.vs
      rw [List.filter_eq_nil_iff.2 (fun x hx => by simpa using fun q => e ⟨x, hx, q⟩)]; rfl
    rw [this, getV_nil] at h; cases h
theorem Rkeys_hs {r : Nat} {v : RS} {t : Int} (hv : RI v) (hb : v.l.length < 2 ^ 40) (H : Hs h (refA r v :: L)) (kk : ∀ h' a c ks, KeysOf (fun k => (v.get k t).2) ks → ks.length ≤ v.l.length → Hs h' (own a ks.length c T_api_Key 3 (ks.flatMap keyV) :: refA r v :: L) → Q (.slice a ks.length c) h') :
    SpecH PP F_ref12_Store_keys [.pointer (some ⟨r, 0, none⟩), .int .i64 t] h Q := by
  refine ref12_Store_keys.door ?_
  have go : ∀ (n i : Nat) {h : Heap} {ks : List Key} {a : OA} {c : Nat}, n + i = v.l.length → ks.length ≤ i → KRise ks → (∀ k, k ∈ ks ↔ (v.get k t).2 = true ∧ ∃ x ∈ v.l.take i, x.k = k) → Hs h (own a ks.length c T_api_Key 3 (ks.flatMap keyV) :: refA r v :: L) →
      ref12_Store_keys.L1 (some ⟨r, 0, none⟩) t a ks.length c (i : Int) (ref12_Store_keys.K1 Q) h := by
    intro n
    induction n with
    | zero =>
      intro i h ks a c hi hkl hr hk H
      obtain ⟨ra, rc, H1⟩ := refA_open.1 H.m1
      refine ref12_Store_keys.L1_of ⟨_, _, _, H1.cell (off := 0) rfl, br_false (decide_eq_false (by omega)) (ref12_Store_keys.L1_X0 ?_)⟩
      rw [List.take_of_length_le (by omega)] at hk
      exact kk h a c ks ⟨hr, fun k => ⟨fun q => ((hk k).1 q).1, fun q => (hk k).2 ⟨q, rget_mem q⟩⟩⟩ (by omega) H
    | succ n ih =>
      intro i h ks a c hi hkl hr hk H
      have hil : i < v.l.length := by omega
      obtain ⟨ra, rc, H1⟩ := refA_open.1 H.m1
      refine ref12_Store_keys.L1_of ⟨_, _, _, H1.cell (off := 0) rfl, br_true (decide_eq_true (by omega)) ⟨_, _, _, H1.cell (off := 0) rfl, ?_⟩⟩
      refine idxf E_sl_haversackref12_Version (φ := rvV) (l := v.l) (x := v.l[i]) (Hs.rd H1.m1) rvV_len (by decide) (by omega) (by omega) (by simp) fun t1 ht => ⟨_, _, _, ⟨ht.1, ht.2.1, ht.2.2.1, trivial⟩, ?_⟩
      have et : v.l.take (i + 1) = v.l.take i ++ [v.l[i]] := List.take_succ_eq_append_getElem hil
      have hin : ∀ k, (∃ x ∈ v.l.take (i + 1), x.k = k) ↔ (∃ x ∈ v.l.take i, x.k = k) ∨ k = v.l[i].k := by
        intro k
        rw [et]
        constructor
        · rintro ⟨x, hx, e⟩
          rcases List.mem_append.1 hx with hx | hx
          · exact .inl ⟨x, hx, e⟩
          · rw [List.mem_singleton.1 hx] at e; exact .inr e.symm
        · rintro (⟨x, hx, e⟩ | e)
          · exact ⟨x, List.mem_append_left _ hx, e⟩
          · exact ⟨_, List.mem_append_right _ (List.mem_singleton.2 rfl), e.symm⟩
      clear et
      generalize v.l[i].k = k at hin ⊢
      dsimp only
      refine Hs.wrs (b := Array.size h) (xs := [.string ⟨#[]⟩, .string ⟨#[]⟩, .string ⟨#[]⟩]) H.new (fun h3 H3 => ⟨_, _, _, H3.rdc0, ?_⟩)
      generalize Array.size h = k7 at H3 ⊢
      refine RGet_hs (k := k) hv hb H3.m2 fun h4 H4 => ⟨_, _, rfl, ?_⟩
      have H4 : Hs h4 (own a ks.length c T_api_Key 3 (ks.flatMap keyV) :: pt k7 T_api_Key (keyV k) :: refA r v :: L) := H4.sel 3 [2, 1, 0]
      -- on to the next version
      have J2 : ∀ {h : Heap} {ks' : List Key} {a : OA} {c : Nat}, ks'.length ≤ i + 1 → KRise ks' → (∀ j, j ∈ ks' ↔ (v.get j t).2 = true ∧ ((∃ x ∈ v.l.take i, x.k = j) ∨ j = k)) → Hs h (own a ks'.length c T_api_Key 3 (ks'.flatMap keyV) :: refA r v :: L) → ref12_Store_keys.J2 (some ⟨r, 0, none⟩) t a ks'.length c (i : Int) (ref12_Store_keys.K1 Q) h := by
        intro h ks' a c hl hr' hk' H
        refine ref12_Store_keys.J2_of ?_
        dsimp only
        rw [i1 (i := i) (by omega)]
        exact ih (i + 1) (by omega) hl hr' (fun j => by rw [hk' j, hin j]) H
      have known : ((!(v.get k t).2) || ks.any fun x => decide (x = k)) = true → ref12_Store_keys.J2 (some ⟨r, 0, none⟩) t a ks.length c (i : Int) (ref12_Store_keys.K1 Q) h4 := by
        intro e
        refine J2 (by omega) hr (fun j => ?_) (H4.sel 3 [0, 2])
        rw [hk j]
        refine ⟨fun q => ⟨q.1, .inl q.2⟩, fun q => ⟨q.1, q.2.elim id fun q2 => ?_⟩⟩
        subst q2
        rw [q.1, Bool.not_true, Bool.false_or, List.any_eq_true] at e
        obtain ⟨x, hx, e⟩ := e
        rw [of_decide_eq_true e] at hx
        exact ((hk j).1 hx).2
      have fresh : ((!(v.get k t).2) || ks.any fun x => decide (x = k)) = false → ref12_Store_keys.K2 (ref12_Store_keys.K1 Q) (.exit 2) (ref12_Store_keys.X2 (some ⟨r, 0, none⟩) t a ks.length c (i : Int) ⟨k7, 0, none⟩ false) h4 := by
        intro e
        rw [Bool.or_eq_false_iff] at e
        have hg : (v.get k t).2 = true := by simpa using e.1
        have hnk : k ∉ ks := by
          intro q
          have := List.any_eq_false.1 e.2 k q
          simp at this
        refine ref12_Store_keys.L2_X2 (br_false rfl ⟨_, _, _, H4.m1.rdc0, ?_⟩)
        refine key_app (w := k) (by omega) H4 fun h5 a5 c5 H5 => ⟨_, _, _, rfl, ?_⟩
        have hl5 : (ks ++ [k]).length = ks.length + 1 := by simp
        -- A, then k, then what stands behind it
        have sink : ∀ (m : Nat) (A B : List Key) {h : Heap}, A.length = m → A ++ B = ks → (∀ b ∈ B, klt k b = true) → Hs h (own a5 (A ++ k :: B).length c5 T_api_Key 3 ((A ++ k :: B).flatMap keyV) :: refA r v :: L) →
            ref12_Store_keys.L3 (some ⟨r, 0, none⟩) t a5 (A ++ k :: B).length c5 (i : Int) (m : Int) (ref12_Store_keys.K5 (ref12_Store_keys.K1 Q)) h := by
          intro m
          induction m with
          | zero =>
            intro A B h hm hAB hB H
            have hA : A = [] := List.length_eq_zero_iff.1 hm
            subst hA
            simp only [List.nil_append] at hAB H ⊢
            rw [hAB] at hB H ⊢
            refine ref12_Store_keys.L3_of (br_false (by decide) (ref12_Store_keys.L3_X4 (J2 (ks' := k :: ks) (by simp; omega) (List.pairwise_cons.2 ⟨hB, hr⟩) (fun j => ?_) H)))
            rw [List.mem_cons, hk j]
            constructor
            · rintro (q | q)
              · subst q; exact ⟨hg, .inr rfl⟩
              · exact ⟨q.1, .inl q.2⟩
            · rintro ⟨q1, q2 | q2⟩
              · exact .inr ⟨q1, q2⟩
              · exact .inl q2
          | succ m ihm =>
            intro A B h hm hAB hB H
            obtain ⟨A0, y, rfl⟩ := snoc_of (l := A) (by omega)
            have hA0 : A0.length = m := by simpa using hm
            have hsum : A0.length + 1 + B.length = ks.length := by rw [← hAB]; simp; omega
            have htot : ((A0 ++ [y]) ++ k :: B).length = ks.length + 1 := by rw [← hAB]; simp; omega
            have gk : ((A0 ++ [y]) ++ k :: B)[((m + 1 : Nat) : Int).toNat]? = some k := by
              rw [Int.toNat_natCast, List.getElem?_append_right (by simp; omega)]; simp [hA0]
            have gy : ((A0 ++ [y]) ++ k :: B)[((m : Nat) : Int).toNat]? = some y := by
              rw [Int.toNat_natCast, List.getElem?_append_left (by simp; omega), List.getElem?_append_right (by omega)]; simp [hA0]
            have dm : IntKind.i64.wrap (((m + 1 : Nat) : Int) - 1) = (m : Nat) := by rw [wrap_i64_z (by omega) (by omega)]; omega
            refine ref12_Store_keys.L3_of (br_true (decide_eq_true (by omega)) ?_)
            refine idxf E_sl_api_Key (φ := keyV) (x := k) H.rd keyV_len (by decide) (by omega) (by omega) gk fun t2 ht2 => ⟨_, _, _, ht2, ?_⟩
            dsimp only
            rw [dm]
            refine idxf E_sl_api_Key (φ := keyV) (x := y) H.rd keyV_len (by decide) (by omega) (by omega) gy fun t3 ht3 => ⟨_, _, _, ht3, ?_⟩
            refine RLess_hs (a := k) (b := y) H fun h6 H6 => ⟨_, rfl, ?_⟩
            refine (br_iff _ _ _).2 ⟨fun e5 => ?_, fun e5 => ref12_Store_keys.L3_X4 (J2 (by omega) ?_ (fun j => ?_) H6)⟩
            · refine idxf E_sl_api_Key (φ := keyV) (x := k) H6.rd keyV_len (by decide) (by omega) (by omega) gk fun t4 ht4 => ⟨_, _, _, ht4, ?_⟩
              refine Hs.wrs (b := Array.size h6) (xs := [.string ⟨#[]⟩, .string ⟨#[]⟩, .string ⟨#[]⟩]) H6.new (fun h7 H7 => ?_)
              generalize Array.size h6 = x13 at H7 ⊢
              refine idxf E_sl_api_Key (φ := keyV) (x := y) (Hs.rd H7.m1) keyV_len (by decide) (by omega) (by omega) gy fun t5 ht5 => ⟨_, _, _, ht5, ?_⟩
              refine Hs.idx_wrf y E_sl_api_Key H7.m1 (by omega) (by omega) keyV_len (by decide) (keyV_one y) fun h8 H8 => ⟨_, _, _, H8.m1.rdc0, ?_⟩
              refine Hs.idx_wrf k E_sl_api_Key H8 (by omega) (by omega) keyV_len (by decide) (keyV_one k) fun h9 H9 => ?_
              have es : ((((A0 ++ [y]) ++ k :: B).set ((m + 1 : Nat) : Int).toNat y).set ((m : Nat) : Int).toNat k) = A0 ++ k :: (y :: B) := by
                rw [Int.toNat_natCast, Int.toNat_natCast, List.set_append_right _ _ (by simp; omega), List.append_assoc, List.set_append_right _ _ (by omega)]
                simp [hA0]
              rw [es] at H9
              have hl9 : ((A0 ++ [y]) ++ k :: B).length = (A0 ++ k :: (y :: B)).length := by simp
              rw [hl9] at H9 ⊢
              refine ihm A0 (y :: B) hA0 (by rw [← hAB]; simp) (fun b hb => ?_) (H9.sel 3 [0, 2])
              rcases List.mem_cons.1 hb with rfl | hb
              · exact e5
              · exact hB b hb
            · -- k stands
              have hyk : klt y k = true := by
                cases q : klt y k with
                | true => rfl
                | false =>
                  have := klt_tri e5 q
                  exact absurd (by rw [← hAB, this]; simp) hnk
              have hr' := hr
              unfold KRise at hr' ⊢
              rw [← hAB, List.pairwise_append] at hr'
              obtain ⟨r1, r2, r3⟩ := hr'
              refine List.pairwise_append.2 ⟨r1, List.pairwise_cons.2 ⟨hB, r2⟩, fun x hx z hz => ?_⟩
              have hxy : klt x k = true := by
                rcases List.mem_append.1 hx with hx | hx
                · have := (List.pairwise_append.1 r1).2.2 x hx y (by simp)
                  exact klt_trans this hyk
                · rw [List.mem_singleton.1 hx]; exact hyk
              rcases List.mem_cons.1 hz with rfl | hz
              · exact hxy
              · exact r3 x hx z hz
            · have : j ∈ (A0 ++ [y]) ++ k :: B ↔ j = k ∨ j ∈ ks := by rw [← hAB]; simp; constructor <;> (intro q; rcases q with q | q | q | q <;> simp [q])
              rw [this, hk j]
              constructor
              · rintro (q | q)
                · subst q; exact ⟨hg, .inr rfl⟩
                · exact ⟨q.1, .inl q.2⟩
              · rintro ⟨q1, q2 | q2⟩
                · exact .inr ⟨q1, q2⟩
                · exact .inl q2
        dsimp only
        rw [d1 (by omega) (by omega), show (ks ++ [k]).length - 1 = ks.length by omega]
        exact sink ks.length ks [] rfl (by simp) (by simp) (H5.sel 3 [0, 2])
      -- is it known?
      have scan : ∀ (m n : Nat) (b : Bool), m + n = ks.length → b = ((!(v.get k t).2) || (ks.take n).any fun x => decide (x = k)) → ref12_Store_keys.L2 (some ⟨r, 0, none⟩) t a ks.length c (i : Int) ⟨k7, 0, none⟩ b (n : Int) (ref12_Store_keys.K2 (ref12_Store_keys.K1 Q)) h4 := by
        intro m
        induction m with
        | zero =>
          intro n b hmn hb
          rw [List.take_of_length_le (by omega)] at hb
          refine ref12_Store_keys.L2_of (br_false (decide_eq_false (by omega)) ?_)
          cases b with
          | true => exact ref12_Store_keys.L2_X2 (br_true rfl (known hb.symm))
          | false => exact fresh hb.symm
        | succ m ihm =>
          intro n b hmn hb
          have et : ks.take (n + 1) = ks.take n ++ [ks[n]] := List.take_succ_eq_append_getElem (by omega)
          have J1 : ∀ b', b' = ((!(v.get k t).2) || (ks.take (n + 1)).any fun x => decide (x = k)) → ref12_Store_keys.J1 (some ⟨r, 0, none⟩) t a ks.length c (i : Int) ⟨k7, 0, none⟩ b' (n : Int) (ref12_Store_keys.K2 (ref12_Store_keys.K1 Q)) h4 := by
            intro b' hb'
            refine ref12_Store_keys.J1_of ?_
            dsimp only
            rw [i1 (i := n) (by omega)]
            exact ihm (n + 1) b' (by omega) hb'
          refine ref12_Store_keys.L2_of (br_true (decide_eq_true (by omega)) ((br_iff _ _ _).2 ⟨fun e => J1 true ?_, fun e => ?_⟩))
          · rw [et, List.any_append, ← Bool.or_assoc, ← hb, e]; rfl
          · refine idxf E_sl_api_Key (φ := keyV) (x := ks[n]) H4.rd keyV_len (by decide) (by omega) (by omega) (by simp) fun t2 ht2 => ⟨_, _, _, ht2, _, _, _, H4.m1.rdc0, J1 _ ?_⟩
            rw [key_dec, et, List.any_append, ← Bool.or_assoc, ← hb, e]; simp
      exact scan ks.length 0 _ (by omega) (by simp)
  have := go v.l.length 0 (h := h) (ks := []) (a := none) (c := 0) (by omega) (Nat.le_refl _) List.Pairwise.nil (by simp) (H.own_nil T_api_Key 3)
  exact this
theorem RList_hs {r : Nat} {v : RS} {t : Int} {b : Bx} (hv : RI v) (hb : v.l.length < 2 ^ 40) (H : Hs h (refA r v :: L)) (kk : ∀ h' a c ks, KeysOf (fun k => (v.get k t).2 && (decide (k.t = b.t) && decide (k.a = b.a))) ks → ks.length ≤ v.l.length → Hs h' (own a ks.length c T_string 1 (ks.map fun k => .string k.e) :: refA r v :: L) → Q (.slice a ks.length c) h') :
    SpecH PP F_ref12_Store_List [.pointer (some ⟨r, 0, none⟩), bxA b, .int .i64 t] h Q := by
  refine ref12_Store_List.door ?_
  dsimp only
  have H1 := H.new (t := T_api_Box) (cs := (bxV b).toArray) (xs := bxV b)
  generalize Array.size h = b4 at H1 ⊢
  refine Rkeys_hs hv hb H1.m1 fun h2 a c ks hk hl H2 => ⟨_, _, _, rfl, ?_⟩
  have hks : KeysOf (fun k => (v.get k t).2 && (decide (k.t = b.t) && decide (k.a = b.a))) (ks.filter fun k => decide (k.t = b.t) && decide (k.a = b.a)) := ⟨hk.rise.filter _, fun k => by rw [List.mem_filter, hk.mem k]; simp⟩
  have go : ∀ (n i : Nat) {h : Heap} {a' : OA} {c' : Nat} {js : List Key}, n + i = ks.length → js = (ks.take i).filter (fun k => decide (k.t = b.t) && decide (k.a = b.a)) → Hs h (own a' js.length c' T_string 1 ((js.map Key.e).map Value.string) :: own a ks.length c T_api_Key 3 (ks.flatMap keyV) :: pt b4 T_api_Box (bxV b) :: refA r v :: L) →
      ref12_Store_List.L1 ⟨b4, 0, none⟩ a' js.length c' a ks.length c (i : Int) (ref12_Store_List.K1 Q) h := by
    intro n
    induction n with
    | zero =>
      intro i h a' c' js hi hjs H
      refine ref12_Store_List.L1_of (br_false (decide_eq_false (by omega)) (ref12_Store_List.L1_X0 ?_))
      rw [List.take_of_length_le (by omega)] at hjs
      subst hjs
      rw [List.map_map] at H
      exact kk h a' c' _ hks (Nat.le_trans (List.length_filter_le ..) hl) (H.sel 4 [0, 3])
    | succ n ih =>
      intro i h a' c' js hi hjs H
      have et : ks.take (i + 1) = ks.take i ++ [ks[i]] := List.take_succ_eq_append_getElem (by omega)
      have hjl : js.length ≤ 2 ^ 40 := by
        rw [hjs]; exact Nat.le_trans (List.length_filter_le ..) (by simp; omega)
      have J2 : ∀ {h : Heap} {a' : OA} {c' : Nat} {js : List Key}, js = (ks.take (i + 1)).filter (fun k => decide (k.t = b.t) && decide (k.a = b.a)) → Hs h (own a' js.length c' T_string 1 ((js.map Key.e).map Value.string) :: own a ks.length c T_api_Key 3 (ks.flatMap keyV) :: pt b4 T_api_Box (bxV b) :: refA r v :: L) →
          ref12_Store_List.J2 ⟨b4, 0, none⟩ a' js.length c' a ks.length c (i : Int) (ref12_Store_List.K1 Q) h := by
        intro h a' c' js hjs H
        refine ref12_Store_List.J2_of ?_
        dsimp only
        rw [i1 (i := i) (by omega)]
        exact ih (i + 1) (by omega) hjs H
      have el : ∀ {h : Heap} {R : Addr → Heap → Prop}, Hs h (own a' js.length c' T_string 1 ((js.map Key.e).map Value.string) :: own a ks.length c T_api_Key 3 (ks.flatMap keyV) :: pt b4 T_api_Box (bxV b) :: refA r v :: L) → (∀ t, rdCells h t 0 (keyV ks[i]) → R t h) → hwp PP (Instr.indexAt T_sl_api_Key (.slice a ks.length c) (.int .i64 (i : Int))) (fun u h2 => ∃ t, u = .pointer (some t) ∧ R t h2) h := fun {h} {R} H K =>
        idxf E_sl_api_Key (φ := keyV) (l := ks) (x := ks[i]) (Hs.rd H.m1) keyV_len (by decide) (by omega) (by omega) (by simp) K
      have no : (decide (ks[i].t = b.t) && decide (ks[i].a = b.a)) = false → ref12_Store_List.J1 ⟨b4, 0, none⟩ a' js.length c' a ks.length c (i : Int) false (ref12_Store_List.K1 Q) h := by
        intro e
        refine ref12_Store_List.J1_of (br_false rfl (J2 ?_ H))
        rw [et, List.filter_append, List.filter_cons, if_neg (by rw [e]; simp), List.filter_nil, List.append_nil]; exact hjs
      refine ref12_Store_List.L1_of (br_true (decide_eq_true (by omega)) (el H fun t1 ht => ⟨_, ht.1, _, H.m2.cell (off := 0) rfl, (br_iff _ _ _).2 ⟨fun e => ?_, fun e => no (by rw [e]; rfl)⟩⟩))
      refine el H fun t2 ht2 => ⟨_, ht2.2.1, _, H.m2.cell (off := 1) rfl, ?_⟩
      cases e2 : decide (ks[i].a = b.a) with
      | false => exact no (by rw [e2, Bool.and_false])
      | true =>
        refine ref12_Store_List.J1_of (br_true rfl (el H fun t3 ht3 => ⟨_, ht3.2.2.1, ?_⟩))
        have hll : js.length = (js.map Key.e).length := by simp
        rw [hll] at H ⊢
        refine str_app (w := ks[i].e) (by rw [← hll]; exact hjl) H fun h5 a5 c5 H5 => ⟨_, _, _, rfl, ?_⟩
        have e5 : js.map Key.e ++ [ks[i].e] = (js ++ [ks[i]]).map Key.e := by simp
        rw [e5] at H5 ⊢
        rw [show ((js ++ [ks[i]]).map Key.e).length = (js ++ [ks[i]]).length by simp] at H5 ⊢
        refine J2 ?_ H5
        rw [et, List.filter_append, List.filter_cons, if_pos (by rw [e, e2]; rfl), List.filter_nil, ← hjs]
  have := go ks.length 0 (h := h2) (a' := none) (c' := 0) (js := []) (by omega) (by simp) ((H2.sel 3 [0, 2, 1]).own_nil T_string 1)
  exact this
end Go.Proofs.Ytjkfngolgjbakaa

set_option maxRecDepth 20000
set_option linter.unusedVariables false
set_option linter.unusedSimpArgs false
namespace Go.Proofs.Ytjkfngolgjbakaa
open Go Go.HW
variable {h : Heap} {L : List Assn} {Q : Value → Heap → Prop}
def RS.last (v : RS) (k : Key) : Int := (v.vs k).foldl (fun n x => if x.at_ > n then x.at_ else n) 0
theorem RLast_hs {r : Nat} {v : RS} {k : Key} (hb : v.l.length < 2 ^ 40) (H : Hs h (refA r v :: L)) (kk : ∀ h', Hs h' (refA r v :: L) → Q (.int .i64 (v.last k)) h') : SpecH PP F_ref12_Store_Last [.pointer (some ⟨r, 0, none⟩), keyA k] h Q := by
  obtain ⟨a, c, H⟩ := refA_open.1 H
  refine ref12_Store_Last.door ?_
  dsimp only
  suffices main : ∀ {h1 : Heap} {k3 : Nat}, Hs h1 (pt k3 T_api_Key (keyV k) :: pt r T_haversackref12_Store [.slice a v.l.length c, .int .i64 v.now, .int .i64 v.floor] :: own a v.l.length c T_haversackref12_Version 6 (v.l.flatMap rvV) :: L) → ref12_Store_Last.L1 (some ⟨r, 0, none⟩) ⟨k3, 0, none⟩ 0 0 (ref12_Store_Last.K1 Q) h1 from main (H.new (t := T_api_Key) (cs := (keyV k).toArray) (xs := keyV k))
  intro h1 k3 H1
  have cS : cellH h1 ⟨r, 0, none⟩ = some (.slice a v.l.length c) := H1.m1.cell (off := 0) rfl
  have el : ∀ {i : Nat} (hi : i < v.l.length) {R : Addr → Heap → Prop}, (∀ t, rdCells h1 t 0 (rvV v.l[i]) → R t h1) → hwp PP (Instr.indexAt T_sl_haversackref12_Version (.slice a v.l.length c) (.int .i64 (i : Int))) (fun u h2 => ∃ t, u = .pointer (some t) ∧ R t h2) h1 := fun {i} hi {R} K =>
    idxf E_sl_haversackref12_Version (φ := rvV) (l := v.l) (x := v.l[i]) (Hs.rd H1.m2) rvV_len (by decide) (by omega) (by omega) (by simp) K
  have go : ∀ (n i : Nat) (b : Int), n + i = v.l.length → ((v.l.drop i).filter (fun x => decide (x.k = k)) |>.map RV.ver).foldl (fun n x => if x.at_ > n then x.at_ else n) b = v.last k → ref12_Store_Last.L1 (some ⟨r, 0, none⟩) ⟨k3, 0, none⟩ b (i : Int) (ref12_Store_Last.K1 Q) h1 := by
    intro n
    induction n with
    | zero =>
      intro i b hi hb
      rw [List.drop_of_length_le (by omega)] at hb
      have hb : b = v.last k := hb
      refine ref12_Store_Last.L1_of ⟨_, _, _, cS, br_false (decide_eq_false (by omega)) (ref12_Store_Last.L1_X0 ?_)⟩
      rw [hb]
      exact kk h1 (refA_open.2 ⟨a, c, H1.tl⟩)
    | succ n ih =>
      intro i b hi hb
      have hil : i < v.l.length := by omega
      rw [List.drop_eq_getElem_cons hil] at hb
      refine ref12_Store_Last.L1_of ⟨_, _, _, cS, br_true (decide_eq_true (by omega)) ⟨_, _, _, cS, el hil fun t1 ht => ⟨_, _, _, ⟨ht.1, ht.2.1, ht.2.2.1, trivial⟩, _, _, _, H1.rdc0, ?_⟩⟩⟩
      rw [key_dec]
      have J1 : ∀ b', ((v.l.drop (i + 1)).filter (fun x => decide (x.k = k)) |>.map RV.ver).foldl (fun n x => if x.at_ > n then x.at_ else n) b' = v.last k → ref12_Store_Last.J1 (some ⟨r, 0, none⟩) ⟨k3, 0, none⟩ b' (i : Int) (ref12_Store_Last.K1 Q) h1 := by
        intro b' hb'
        refine ref12_Store_Last.J1_of ?_
        dsimp only
        rw [i1 (i := i) (by omega)]
        exact ih (i + 1) b' (by omega) hb'
      refine (br_iff _ _ _).2 ⟨fun e => ⟨_, _, _, cS, el hil fun t2 ht2 => ⟨_, ht2.2.2.2.1, J1 _ ?_⟩⟩, fun e => J1 _ ?_⟩
      · rw [List.filter_cons, if_pos e] at hb; exact hb
      · rw [List.filter_cons, if_neg (by rw [e]; simp)] at hb; exact hb
  exact go v.l.length 0 0 (by omega) rfl
/-! ### Put -/
def wrv (a : Int) (w : Wr) : RV := ⟨w.k, a, w.there, if w.there then w.data else ⟨#[]⟩⟩
def same (x y : RV) : Bool := decide (y.k = x.k) && decide (y.at_ = x.at_)
def putL (l : List RV) (x : RV) : List RV := match l.findIdx? (same x) with | some j => l.set j x | none => l ++ [x]
def RS.put1 (a : Int) (v : RS) (w : Wr) : RS := { v with l := putL v.l (wrv a w) }
def RS.put (v : RS) (a : Int) (ws : List Wr) : RS := ws.foldl (RS.put1 a) { v with now := a }
theorem find_some {α : Type} {p : α → Bool} {l : List α} {j : Nat} (h : l.findIdx? p = some j) : ∃ hj : j < l.length, p l[j] = true ∧ ∀ i (hi : i < j), p (l[i]'(by omega)) = false := by
  rw [List.findIdx?_eq_some_iff_getElem] at h
  obtain ⟨h1, h2, h3⟩ := h
  exact ⟨h1, h2, fun i hi => by simpa using h3 i hi⟩
theorem put_rise {l : List RV} {x : RV} (h : l.Pairwise fun x y => x.k = y.k → x.at_ < y.at_) (hm : ∀ y ∈ l, y.at_ ≤ x.at_) : (putL l x).Pairwise fun x y => x.k = y.k → x.at_ < y.at_ := by
  unfold putL
  split
  · rename_i j e
    obtain ⟨hj, e1, _⟩ := find_some e
    unfold same at e1
    rw [Bool.and_eq_true, decide_eq_true_eq, decide_eq_true_eq] at e1
    rw [List.pairwise_iff_getElem] at h ⊢
    intro a b ha hb hab
    rw [List.length_set] at ha hb
    have := h a b ha hb hab
    rw [List.getElem_set, List.getElem_set]
    split
    · rename_i q; subst q
      rw [if_neg (by omega)]
      rw [← e1.1, ← e1.2]; exact this
    · split
      · rename_i q; subst q
        rw [← e1.1, ← e1.2]; exact this
      · exact this
  · rename_i e
    rw [List.findIdx?_eq_none_iff] at e
    refine List.pairwise_append.2 ⟨h, List.pairwise_singleton .., fun y hy z hz hk => ?_⟩
    rw [List.mem_singleton.1 hz] at hk ⊢
    have h1 := hm y hy
    have h2 := e y hy
    unfold same at h2
    rw [hk, decide_eq_true rfl, Bool.true_and] at h2
    have h2 : y.at_ ≠ x.at_ := by simpa using h2
    omega
theorem mem_putL {l : List RV} {x y : RV} (h : y ∈ putL l x) : y = x ∨ y ∈ l := by
  unfold putL at h
  split at h
  · exact (List.mem_or_eq_of_mem_set h).symm
  · rcases List.mem_append.1 h with h | h
    · exact .inr h
    · exact .inl (List.mem_singleton.1 h)
theorem putL_len (l : List RV) (x : RV) : (putL l x).length ≤ l.length + 1 := by unfold putL; split <;> simp
theorem RI.put1 {v : RS} {a : Int} {w : Wr} (h : RI v) (hn : v.now = a) (hp : 0 < a) : RI (v.put1 a w) where
  rise := put_rise h.rise fun y hy => by show y.at_ ≤ a; rw [← hn]; exact h.now y hy
  now x hx := by
    show x.at_ ≤ v.now
    rcases mem_putL hx with rfl | hx
    · exact Int.le_of_eq hn.symm
    · exact h.now x hx
  pos x hx := by
    rcases mem_putL hx with rfl | hx
    · exact hp
    · exact h.pos x hx
  floor := h.floor
theorem RPut_hs {r : Nat} {v : RS} {x : Cm} (hv : RI v) (hb : v.l.length + x.n < 2 ^ 40) (ok : CmOk L x) (H : Hs h (refA r v :: L)) (k0 : x.at_ ≤ v.now → ∀ h', Hs h' (refA r v :: L) → Q (.int .i64 120) h')
    (k1 : v.now < x.at_ → ∀ h', Hs h' (refA r (v.put x.at_ x.ws) :: L) → Q (.int .i64 0) h') : SpecH PP F_ref12_Store_Put [.pointer (some ⟨r, 0, none⟩), .agg (cmV x).toArray] h Q := by
  have hn := ok.n
  obtain ⟨a, c, H⟩ := refA_open.1 H
  refine ref12_Store_Put.door ?_
  dsimp only
  have H1 := H.new (t := T_api_Commit) (cs := (cmV x).toArray) (xs := cmV x)
  generalize Array.size h = c3 at H1 ⊢
  refine ⟨_, H1.cell (off := 0) rfl, _, H1.m1.cell (off := 1) rfl, (br_iff _ _ _).2 ⟨fun e => ?_, fun e => ?_⟩⟩
  · exact k0 (of_decide_eq_true e) _ (refA_open.2 ⟨a, c, H1.tl⟩)
  have hlt : v.now < x.at_ := by have := of_decide_eq_false e; omega
  have k1 := k1 hlt
  refine ⟨_, H1.cell (off := 0) rfl, ?_⟩
  refine H1.m1.sto (off := 1) (by simp) fun h2 H2 => ?_
  have hpos : 0 < x.at_ := by have := hv.floor; omega
  have go : ∀ (n i : Nat) {v : RS} {h : Heap}, n + i = x.n → v.now = x.at_ → RI v → v.l.length + n < 2 ^ 40 → (∀ h', Hs h' (refA r ((x.ws.drop i).foldl (RS.put1 x.at_) v) :: L) → Q (.int .i64 0) h') → Hs h (refA r v :: pt c3 T_api_Commit (cmV x) :: L) →
      ref12_Store_Put.L1 (some ⟨r, 0, none⟩) ⟨c3, 0, none⟩ (i : Int) (ref12_Store_Put.K1 Q) h := by
    intro n
    induction n with
    | zero =>
      intro i v h hi hnow hv htot kk H
      rw [List.drop_of_length_le (by omega)] at kk
      exact ref12_Store_Put.L1_of ⟨_, _, _, H.m1.cell (off := 1) rfl, br_false (decide_eq_false (by omega)) (ref12_Store_Put.L1_X0 (kk h H.m1.tl))⟩
    | succ n ih =>
      intro i v h hi hnow hv htot kk H
      rw [List.drop_eq_getElem_cons (by omega), List.foldl_cons] at kk
      refine ref12_Store_Put.L1_of ⟨_, _, _, H.m1.cell (off := 1) rfl, br_true (decide_eq_true (by omega)) ⟨_, _, _, H.m1.cell (off := 1) rfl, ?_⟩⟩
      refine idxf E_sl_api_Write (φ := wrV) (l := x.ws) (x := x.ws[i]) (ok.rd.cons.cons _ H) wrV_len (by decide) (by omega) (by omega) (by simp) fun t ht => ⟨_, _, _, _, _, ht, ?_⟩
      generalize x.ws[i] = w at kk ⊢
      dsimp only
      refine Hs.wrs (b := Array.size h) (xs := [.string ⟨#[]⟩, .string ⟨#[]⟩, .string ⟨#[]⟩, .bool false, .string ⟨#[]⟩]) H.new (fun h3 H3 => ?_)
      generalize Array.size h = w6 at H3 ⊢
      refine ⟨_, _, _, H3.rdo 0 rfl, _, H3.m2.cell (off := 0) rfl, _, H3.cell (off := 3) rfl, ?_⟩
      refine Hs.wrs (b := Array.size h3) (xs := [.string ⟨#[]⟩, .string ⟨#[]⟩, .string ⟨#[]⟩, .int .i64 0, .bool false, .string ⟨#[]⟩]) H3.new (fun h4 H4 => ?_)
      generalize Array.size h3 = v7 at H4 ⊢
      have J3 : ∀ {h : Heap}, Hs h (refA r (v.put1 x.at_ w) :: pt c3 T_api_Commit (cmV x) :: L) → ref12_Store_Put.J3 (some ⟨r, 0, none⟩) ⟨c3, 0, none⟩ (i : Int) (ref12_Store_Put.K1 Q) h := by
        intro h H
        refine ref12_Store_Put.J3_of ?_
        dsimp only
        rw [i1 (i := i) (by omega)]
        have : (v.put1 x.at_ w).l.length ≤ v.l.length + 1 := putL_len _ _
        exact ih (i + 1) (v := v.put1 x.at_ w) (by omega) hnow (hv.put1 hnow hpos) (by omega) kk H
      have J1 : ∀ {h : Heap}, Hs h (pt v7 T_haversackref12_Version (rvV (wrv x.at_ w)) :: pt w6 T_api_Write (wrV w) :: refA r v :: pt c3 T_api_Commit (cmV x) :: L) → ref12_Store_Put.J1 (some ⟨r, 0, none⟩) ⟨c3, 0, none⟩ (i : Int) ⟨w6, 0, none⟩ ⟨v7, 0, none⟩ (ref12_Store_Put.K1 Q) h := by
        intro h H
        obtain ⟨a, c, H1⟩ := refA_open.1 H.m2
        have cS : cellH h ⟨r, 0, none⟩ = some (.slice a v.l.length c) := H1.cell (off := 0) rfl
        have el : ∀ {j : Nat} (hj : j < v.l.length) {R : Addr → Heap → Prop}, (∀ t, rdCells h t 0 (rvV v.l[j]) → R t h) → hwp PP (Instr.indexAt T_sl_haversackref12_Version (.slice a v.l.length c) (.int .i64 (j : Int))) (fun u h2 => ∃ t, u = .pointer (some t) ∧ R t h2) h := fun {j} hj {R} K =>
          idxf E_sl_haversackref12_Version (φ := rvV) (l := v.l) (x := v.l[j]) (Hs.rd H1.m1) rvV_len (by decide) (by omega) (by omega) (by simp) K
        have fin : ref12_Store_Put.K3 (ref12_Store_Put.K1 Q) (.exit 2) (ref12_Store_Put.X2 (some ⟨r, 0, none⟩) ⟨c3, 0, none⟩ (i : Int) ⟨v7, 0, none⟩ (((v.l.findIdx? (same (wrv x.at_ w))).getD v.l.length : Nat) : Int)) h := by
          refine ref12_Store_Put.L2_X2 ⟨_, _, _, cS, ?_⟩
          cases e : v.l.findIdx? (same (wrv x.at_ w)) with
          | none =>
            refine br_true (beq_self_eq_true _) ⟨_, _, _, cS, _, _, _, _, _, _, H1.m2.rdc0, ?_⟩
            refine H1.m1.app_vals E_sl_haversackref12_Version (ys := rvV (wrv x.at_ w)) (m := 1) rfl rfl (rvV_one _) (fun h5 a5 c5 H5 => ⟨_, _, _, rfl, ?_⟩) (by omega) (by omega)
            refine H5.m1.sto (off := 0) (by simp) fun h6 H6 => J3 ?_
            have e1 : (v.put1 x.at_ w).l = v.l ++ [wrv x.at_ w] := by unfold RS.put1 putL; rw [e]
            have e2 : v.l.flatMap rvV ++ rvV (wrv x.at_ w) = (v.l ++ [wrv x.at_ w]).flatMap rvV := by simp
            have e3 : v.l.length + 1 = (v.l ++ [wrv x.at_ w]).length := by simp
            rw [e2, e3, ← e1] at H6
            exact refA_open.2 ⟨a5, c5, H6.sel 5 [0, 1, 4]⟩
          | some j =>
            obtain ⟨hj, _, _⟩ := find_some e
            refine br_false (beq_eq_false_iff_ne.2 (by show ((j : Nat) : Int) ≠ _; omega)) ⟨_, _, _, cS, _, _, _, _, _, _, H1.m2.rdc0, ?_⟩
            refine Hs.idx_wrf (wrv x.at_ w) E_sl_haversackref12_Version H1.m1 (by omega) (by show ((j : Nat) : Int) < _; omega) rvV_len (by decide) (rvV_one _) fun h5 H5 => J3 ?_
            have e1 : (v.put1 x.at_ w).l = v.l.set j (wrv x.at_ w) := by unfold RS.put1 putL; rw [e]
            have e3 : v.l.length = (v.l.set j (wrv x.at_ w)).length := by simp
            have H5 : Hs h5 (own a v.l.length c T_haversackref12_Version 6 ((v.l.set j (wrv x.at_ w)).flatMap rvV) :: pt r T_haversackref12_Store [.slice a v.l.length c, .int .i64 v.now, .int .i64 v.floor] :: pt v7 T_haversackref12_Version (rvV (wrv x.at_ w)) :: pt w6 T_api_Write (wrV w) :: pt c3 T_api_Commit (cmV x) :: L) := H5
            rw [e3, ← e1] at H5
            exact refA_open.2 ⟨a, c, H5.sel 5 [1, 0, 4]⟩
        have scan : ∀ (m j : Nat), m + j = v.l.length → ref12_Store_Put.L2 (some ⟨r, 0, none⟩) ⟨c3, 0, none⟩ (i : Int) ⟨w6, 0, none⟩ ⟨v7, 0, none⟩ ((((v.l.take j).findIdx? (same (wrv x.at_ w))).getD v.l.length : Nat) : Int) (j : Int) (ref12_Store_Put.K3 (ref12_Store_Put.K1 Q)) h := by
          intro m
          induction m with
          | zero =>
            intro j hmj
            rw [List.take_of_length_le (by omega)]
            exact ref12_Store_Put.L2_of ⟨_, _, _, cS, br_false (decide_eq_false (by omega)) fin⟩
          | succ m ihm =>
            intro j hmj
            have hj : j < v.l.length := by omega
            have et : v.l.take (j + 1) = v.l.take j ++ [v.l[j]] := List.take_succ_eq_append_getElem hj
            have htl : (v.l.take j).length = j := by rw [List.length_take]; omega
            have J4 : ∀ b : Nat, b = ((v.l.take (j + 1)).findIdx? (same (wrv x.at_ w))).getD v.l.length → ref12_Store_Put.J4 (some ⟨r, 0, none⟩) ⟨c3, 0, none⟩ (i : Int) ⟨w6, 0, none⟩ ⟨v7, 0, none⟩ (b : Int) (j : Int) (ref12_Store_Put.K3 (ref12_Store_Put.K1 Q)) h := by
              intro b hb
              subst hb
              refine ref12_Store_Put.J4_of ?_
              dsimp only
              rw [i1 (i := j) (by omega)]
              exact ihm (j + 1) (by omega)
            have no : same (wrv x.at_ w) v.l[j] = false → ref12_Store_Put.J2 (some ⟨r, 0, none⟩) ⟨c3, 0, none⟩ (i : Int) ⟨w6, 0, none⟩ ⟨v7, 0, none⟩ ((((v.l.take j).findIdx? (same (wrv x.at_ w))).getD v.l.length : Nat) : Int) (j : Int) false (ref12_Store_Put.K3 (ref12_Store_Put.K1 Q)) h := by
              intro e
              refine ref12_Store_Put.J2_of (br_false rfl (J4 _ ?_))
              rw [et, List.findIdx?_append]
              simp [e]
            refine ref12_Store_Put.L2_of ⟨_, _, _, cS, br_true (decide_eq_true (by omega)) ⟨_, _, _, cS, el hj fun t1 ht => ⟨_, _, _, ⟨ht.1, ht.2.1, ht.2.2.1, trivial⟩, _, _, _, H1.m3.rdo 0 rfl, ?_⟩⟩⟩
            rw [key_dec]
            refine (br_iff _ _ _).2 ⟨fun e => ⟨_, _, _, cS, el hj fun t2 ht2 => ⟨_, ht2.2.2.2.1, _, H1.m4.cell (off := 0) rfl, ?_⟩⟩, fun e => no (by unfold same; show (decide (v.l[j].k = w.k) && _) = false; rw [e]; rfl)⟩
            cases e2 : (v.l[j].at_ == x.at_) with
            | false => exact no (by unfold same; show (_ && decide (v.l[j].at_ = x.at_)) = false; rw [decide_eq_false (beq_eq_false_iff_ne.1 e2), Bool.and_false])
            | true =>
              have e2 := beq_iff_eq.1 e2
              have e := of_decide_eq_true e
              have hs : same (wrv x.at_ w) v.l[j] = true := by unfold same; show (decide (v.l[j].k = w.k) && decide (v.l[j].at_ = x.at_)) = true; rw [decide_eq_true e, decide_eq_true e2]; rfl
              have hno : (v.l.take j).findIdx? (same (wrv x.at_ w)) = none := by
                rw [List.findIdx?_eq_none_iff]
                intro y hy
                obtain ⟨n, hn, rfl⟩ := List.mem_iff_getElem.1 hy
                rw [htl] at hn
                have := List.pairwise_iff_getElem.1 hv.rise n j (by omega) hj hn
                rw [List.getElem_take]
                cases q : same (wrv x.at_ w) v.l[n] with
                | false => rfl
                | true =>
                  unfold same at q
                  rw [Bool.and_eq_true, decide_eq_true_eq, decide_eq_true_eq] at q
                  have q1 : v.l[n].k = w.k := q.1
                  have q2 : v.l[n].at_ = x.at_ := q.2
                  have := this (q1.trans e.symm); omega
              refine ref12_Store_Put.J2_of (br_true rfl (J4 j ?_))
              rw [et, List.findIdx?_append, hno]
              simp [hs, htl]
        refine ref12_Store_Put.J1_of ⟨_, _, _, cS, ?_⟩
        have := scan v.l.length 0 (by omega)
        exact this
      refine ⟨_, H4.m1.cell (off := 3) rfl, (br_iff _ _ _).2 ⟨fun e => ⟨_, H4.m1.cell (off := 4) rfl, ?_⟩, fun e => J1 ?_⟩⟩
      · refine H4.sto (off := 5) (by simp) fun h5 H5 => J1 ?_
        have : wrv x.at_ w = ⟨w.k, x.at_, w.there, w.data⟩ := by unfold wrv; rw [if_pos e]
        rw [this]; exact H5
      · have : wrv x.at_ w = ⟨w.k, x.at_, w.there, ⟨#[]⟩⟩ := by unfold wrv; rw [if_neg (by rw [e]; simp)]
        rw [this]; exact H4
  have := go x.n 0 (v := { v with now := x.at_ }) (h := h2) (by omega) rfl ⟨hv.rise, fun y hy => by have := hv.now y hy; show y.at_ ≤ x.at_; omega, hv.pos, ⟨hv.floor.1, by have := hv.floor.2; show v.floor ≤ x.at_; omega⟩⟩ hb (by rw [List.drop_zero]; exact k1) (refA_open.2 ⟨a, c, H2.sel 3 [0, 2, 1]⟩)
  exact this
end Go.Proofs.Ytjkfngolgjbakaa

set_option maxRecDepth 20000
set_option linter.unusedVariables false
set_option linter.unusedSimpArgs false
namespace Go.Proofs.Ytjkfngolgjbakaa
open Go Go.HW
variable {h : Heap} {L : List Assn} {Q : Value → Heap → Prop}
/-- Is it the newest of its entry at a time? -/
def newestB (l : List RV) (f : Int) (x : RV) : Bool := decide (x.at_ ≤ f) && l.all fun y => !decide (y.k = x.k) || !decide (y.at_ ≤ f) || decide (y.at_ ≤ x.at_)
def keepB (l : List RV) (f : Int) (x : RV) : Bool := decide (x.at_ > f) || (newestB l f x && x.there)
def RS.prune (v : RS) (f : Int) : RS := { v with l := v.l.filter (keepB v.l f), floor := f }
theorem newestB_iff {l : List RV} {f : Int} {x : RV} : newestB l f x = true ↔ x.at_ ≤ f ∧ ∀ y ∈ l, y.k = x.k → y.at_ ≤ f → y.at_ ≤ x.at_ := by
  unfold newestB
  rw [Bool.and_eq_true, decide_eq_true_eq, List.all_eq_true]
  constructor
  · rintro ⟨h1, h2⟩
    refine ⟨h1, fun y hy e q => ?_⟩
    have := h2 y hy
    simp [e, q] at this; exact this
  · rintro ⟨h1, h2⟩
    refine ⟨h1, fun y hy => ?_⟩
    by_cases e : y.k = x.k
    · by_cases q : y.at_ ≤ f
      · have := h2 y hy e q; simp [this]
      · simp [q]
    · simp [e]
theorem new_iff {v : RS} (hv : RI v) {f i : Int} {j : Nat} (hj : j < v.l.length) (hn : NewAt v.l v.l[j].k f i) : (i == (j : Int)) = newestB v.l f v.l[j] := by
  rcases hn with ⟨rfl, h2⟩ | ⟨n, rfl, hn, h1, h2, h3⟩
  · have : newestB v.l f v.l[j] = false := by
      cases q : newestB v.l f v.l[j] with
      | false => rfl
      | true => exact absurd (newestB_iff.1 q).1 (h2 _ (List.getElem_mem hj) rfl)
    rw [this]; exact beq_eq_false_iff_ne.2 (by omega)
  · by_cases e : n = j
    · subst e
      rw [newestB_iff.2 ⟨h2, h3⟩]; exact beq_self_eq_true _
    · have : newestB v.l f v.l[j] = false := by
        cases q : newestB v.l f v.l[j] with
        | false => rfl
        | true =>
          have q := newestB_iff.1 q
          have q1 := q.2 _ (List.getElem_mem hn) h1 h2
          have q2 := h3 _ (List.getElem_mem hj) rfl q.1
          have hr := List.pairwise_iff_getElem.1 hv.rise
          rcases Nat.lt_or_ge n j with z | z
          · have := hr n j hn hj z h1; omega
          · have := hr j n hj hn (by omega) h1.symm; omega
      rw [this]; exact beq_eq_false_iff_ne.2 (by omega)
theorem RPrune_hs {r : Nat} {v : RS} {t : Int} (hv : RI v) (hb : v.l.length < 2 ^ 40) (H : Hs h (refA r v :: L)) (k0 : t ≤ v.floor → Q (.int .i64 0) h)
    (k1 : v.floor < t → ∀ h', Hs h' (refA r (v.prune (if v.now < t then v.now else t)) :: L) → Q (.int .i64 ((v.l.length : Int) - ((v.prune (if v.now < t then v.now else t)).l.length : Int))) h') : SpecH PP F_ref12_Store_Prune [.pointer (some ⟨r, 0, none⟩), .int .i64 t] h Q := by
  obtain ⟨a, c, H⟩ := refA_open.1 H
  refine ref12_Store_Prune.door ⟨_, H.cell (off := 2) rfl, (br_iff _ _ _).2 ⟨fun e => k0 (of_decide_eq_true e), fun e => ?_⟩⟩
  have k1 := k1 (by have := of_decide_eq_false e; omega)
  dsimp only [nilc]
  refine ⟨_, H.cell (off := 1) rfl, H.sto (off := 2) (by simp) fun h1 H1 => ?_⟩
  have hfl : v.floor ≤ (if v.now < t then v.now else t) ∧ (if v.now < t then v.now else t) ≤ v.now := by
    have := of_decide_eq_false e
    have := hv.floor
    split <;> omega
  generalize hf : (if v.now < t then v.now else t) = f at H1 k1 hfl ⊢
  have H1 : Hs h1 (pt r T_haversackref12_Store [.slice a v.l.length c, .int .i64 v.now, .int .i64 f] :: own a v.l.length c T_haversackref12_Version 6 (v.l.flatMap rvV) :: L) := H1
  have hvf : RI { v with floor := f } := ⟨hv.rise, hv.now, hv.pos, ⟨by have := hv.floor.1; show 0 ≤ f; omega, hfl.2⟩⟩
  have go : ∀ (n i : Nat) {h : Heap} {o : OA} {oc : Nat} {out : List RV}, n + i = v.l.length → out = (v.l.take i).filter (keepB v.l f) → Hs h (own o out.length oc T_haversackref12_Version 6 (out.flatMap rvV) :: refA r { v with floor := f } :: L) →
      ref12_Store_Prune.L1 (some ⟨r, 0, none⟩) o out.length oc (i : Int) (ref12_Store_Prune.K1 Q) h := by
    intro n
    induction n with
    | zero =>
      intro i h o oc out hi ho H
      obtain ⟨a, c, H2⟩ := refA_open.1 H.m1
      rw [List.take_of_length_le (by omega)] at ho
      have hol : out.length ≤ v.l.length := by rw [ho]; exact List.length_filter_le ..
      refine ref12_Store_Prune.L1_of ⟨_, _, _, H2.cell (off := 0) rfl, br_false (decide_eq_false (by show ¬ ((i : Int) < (v.l.length : Int)); omega)) (ref12_Store_Prune.L1_X0 ⟨_, _, _, H2.cell (off := 0) rfl, ?_⟩)⟩
      refine H2.sto (off := 0) (by simp) fun h3 H3 => ?_
      dsimp only
      rw [wrap_i64_z (by omega) (by omega)]
      have := k1 h3
      unfold RS.prune at this
      rw [← ho] at this
      exact this (refA_open.2 ⟨o, oc, H3.sel 3 [0, 2]⟩)
    | succ n ih =>
      intro i h o oc out hi ho H
      have hil : i < v.l.length := by omega
      have hol : out.length ≤ i := by rw [ho]; exact Nat.le_trans (List.length_filter_le ..) (by rw [List.length_take]; omega)
      have et : v.l.take (i + 1) = v.l.take i ++ [v.l[i]] := List.take_succ_eq_append_getElem hil
      obtain ⟨a, c, H2⟩ := refA_open.1 H.m1
      refine ref12_Store_Prune.L1_of ⟨_, _, _, H2.cell (off := 0) rfl, br_true (decide_eq_true (by show (i : Int) < (v.l.length : Int); omega)) ⟨_, _, _, H2.cell (off := 0) rfl, ?_⟩⟩
      refine idxf E_sl_haversackref12_Version (φ := rvV) (l := v.l) (x := v.l[i]) (Hs.rd H2.m1) rvV_len (by decide) (by omega) (by show (i : Int) < (v.l.length : Int); omega) (by simp) fun t1 ht => ⟨_, _, _, _, _, _, ht, ?_⟩
      dsimp only
      refine Hs.wrs (b := Array.size h) (xs := [.string ⟨#[]⟩, .string ⟨#[]⟩, .string ⟨#[]⟩, .int .i64 0, .bool false, .string ⟨#[]⟩]) H2.new (fun h3 H3 => ⟨_, H3.cell (off := 3) rfl, _, H3.m1.cell (off := 2) rfl, ?_⟩)
      generalize Array.size h = v7 at H3 ⊢
      have H4 : Hs h3 (own o out.length oc T_haversackref12_Version 6 (out.flatMap rvV) :: pt v7 T_haversackref12_Version (rvV v.l[i]) :: refA r { v with floor := f } :: L) := (refA_open.2 ⟨a, c, H3.sel 4 [1, 2, 3, 0]⟩ : Hs h3 (refA r { v with floor := f } :: _)).sel 3 [1, 2, 0]
      have J2 : ∀ {h : Heap} {o : OA} {oc : Nat} {out : List RV}, out = (v.l.take (i + 1)).filter (keepB v.l f) → Hs h (own o out.length oc T_haversackref12_Version 6 (out.flatMap rvV) :: refA r { v with floor := f } :: L) → ref12_Store_Prune.J2 (some ⟨r, 0, none⟩) o out.length oc (i : Int) (ref12_Store_Prune.K1 Q) h := by
        intro h o oc out ho H
        refine ref12_Store_Prune.J2_of ?_
        dsimp only
        rw [i1 (i := i) (by omega)]
        exact ih (i + 1) (by omega) ho H
      have J1 : ∀ {h : Heap} (b : Bool), b = keepB v.l f v.l[i] → Hs h (own o out.length oc T_haversackref12_Version 6 (out.flatMap rvV) :: pt v7 T_haversackref12_Version (rvV v.l[i]) :: refA r { v with floor := f } :: L) → ref12_Store_Prune.J1 (some ⟨r, 0, none⟩) o out.length oc (i : Int) ⟨v7, 0, none⟩ b (ref12_Store_Prune.K1 Q) h := by
        intro h b hbk H
        refine ref12_Store_Prune.J1_of ((br_iff _ _ _).2 ⟨fun e => ⟨_, _, _, _, _, _, H.m1.rdc0, ?_⟩, fun e => J2 ?_ (H.sel 3 [0, 2])⟩)
        · refine H.app_vals E_sl_haversackref12_Version (ys := rvV v.l[i]) (m := 1) rfl rfl (rvV_one _) (fun h5 a5 c5 H5 => ⟨_, _, _, rfl, ?_⟩) (by omega) (by omega)
          have e2 : out.flatMap rvV ++ rvV v.l[i] = (out ++ [v.l[i]]).flatMap rvV := by simp
          have e3 : out.length + 1 = (out ++ [v.l[i]]).length := by simp
          rw [e2, e3] at H5
          rw [e3]
          refine J2 ?_ (H5.sel 3 [0, 2])
          rw [et, List.filter_append, ← ho, List.filter_cons, if_pos (by rw [← hbk]; exact e), List.filter_nil]
        · rw [et, List.filter_append, ← ho, List.filter_cons, if_neg (by rw [← hbk, e]; simp), List.filter_nil, List.append_nil]
      refine (br_iff _ _ _).2 ⟨fun e => J1 true (by unfold keepB; rw [e]; rfl) H4, fun e => ⟨_, _, _, H3.rdo 0 rfl, _, H3.m1.cell (off := 2) rfl, ?_⟩⟩
      refine Rnewest_hs (v := { v with floor := f }) (k := v.l[i].k) hb H4.m2 fun h5 w hn H5 => ⟨_, rfl, ?_⟩
      have hmx : mx f f = f := by unfold mx; split <;> rfl
      rw [hmx] at hn
      have hw := new_iff hvf hil hn
      have H6 : Hs h5 (own o out.length oc T_haversackref12_Version 6 (out.flatMap rvV) :: pt v7 T_haversackref12_Version (rvV v.l[i]) :: refA r { v with floor := f } :: L) := H5.sel 3 [1, 2, 0]
      refine (br_iff _ _ _).2 ⟨fun e2 => ⟨_, H6.m1.cell (off := 4) rfl, J1 _ ?_ H6⟩, fun e2 => J1 false ?_ H6⟩
      · unfold keepB; rw [e]; rw [show newestB v.l f v.l[i] = true from hw.symm.trans e2]; rfl
      · unfold keepB; rw [e]; rw [show newestB v.l f v.l[i] = false from hw.symm.trans e2]; rfl
  have := go v.l.length 0 (h := h1) (o := none) (oc := 0) (out := []) (by omega) (by simp) ((refA_open.2 ⟨a, c, H1⟩ : Hs h1 (refA r { v with floor := f } :: L)).own_nil T_haversackref12_Version 6)
  exact this
end Go.Proofs.Ytjkfngolgjbakaa

set_option maxRecDepth 20000
set_option linter.unusedVariables false
set_option linter.unusedSimpArgs false
namespace Go.Proofs.Ytjkfngolgjbakaa
open Go Go.HW
variable {h : Heap} {L : List Assn} {Q : Value → Heap → Prop}
theorem RDump_hs {r : Nat} {v : RS} {t : Int} (hv : RI v) (hb : v.l.length < 2 ^ 39) (H : Hs h (refA r v :: L)) (kk : ∀ h' a c ks, KeysOf (fun k => (v.get k t).2) ks → ks.length ≤ v.l.length → Hs h' (arcsA a c (dumpOf (fun k => (v.get k t).1) ks) :: refA r v :: L) → Q (.slice a (dumpOf (fun k => (v.get k t).1) ks).length c) h') :
    SpecH PP F_ref12_Store_Dump [.pointer (some ⟨r, 0, none⟩), .int .i64 t] h Q := by
  refine ref12_Store_Dump.door ?_
  refine Rkeys_hs hv (by omega) H fun h2 ka kc ks hk hl H2 => ⟨_, _, _, rfl, ?_⟩
  have go : ∀ (n i : Nat) {h : Heap} {P : List PArc} {a : OA} {c : Nat}, n + i = ks.length → P.map PArc.arc = dumpOf (fun k => (v.get k t).1) (ks.take i) → P.length ≤ i → (∀ p ∈ P, p.es.length ≤ i) → Hs h (own a P.length c T_api_Archive 3 (P.flatMap arcV) :: Sp (P.map entA) :: own ka ks.length kc T_api_Key 3 (ks.flatMap keyV) :: refA r v :: L) →
      ref12_Store_Dump.L1 (some ⟨r, 0, none⟩) t a P.length c ka ks.length kc (i : Int) (ref12_Store_Dump.K1 Q) h := by
    intro n
    induction n with
    | zero =>
      intro i h P a c hi hP hPl hel H
      refine ref12_Store_Dump.L1_of (br_false (decide_eq_false (by omega)) (ref12_Store_Dump.L1_X0 ?_))
      rw [List.take_of_length_le (by omega)] at hP
      have := kk h a c ks hk hl
      rw [← hP, List.length_map] at this
      exact this ((arcsA_open.2 ⟨P, rfl, H.sel 4 [0, 1, 3]⟩))
    | succ n ih =>
      intro i h P a c hi hP hPl hel H
      have hP2 : dstep (P.map PArc.arc) ks[i] (v.get ks[i] t).1 = dumpOf (fun k => (v.get k t).1) (ks.take (i + 1)) := by
        rw [hP, List.take_succ_eq_append_getElem (by omega)]; unfold dumpOf; rw [List.foldl_append]; rfl
      have gk : ∀ {P : List PArc} {a : OA} {c : Nat} {h : Heap}, Hs h (own a P.length c T_api_Archive 3 (P.flatMap arcV) :: Sp (P.map entA) :: own ka ks.length kc T_api_Key 3 (ks.flatMap keyV) :: refA r v :: L) → ∀ {R : Addr → Heap → Prop}, (∀ t, rdCells h t 0 (keyV ks[i]) → R t h) → hwp PP (Instr.indexAt T_sl_api_Key (.slice ka ks.length kc) (.int .i64 (i : Int))) (fun u h2 => ∃ t, u = .pointer (some t) ∧ R t h2) h := fun {P a c h} H {R} K =>
        idxf E_sl_api_Key (φ := keyV) (l := ks) (x := ks[i]) (Hs.rd H.m2) keyV_len (by decide) (by omega) (by omega) (by simp) K
      generalize ks[i] = k at hP2 gk
      -- the last archive takes the entry
      have J2 : ∀ {h : Heap} {P0 : List PArc} {p : PArc} {a : OA} {c : Nat} (m : Nat), m = (P0 ++ [p]).length → (∀ a' c', dstep (P.map PArc.arc) k (v.get k t).1 = (P0 ++ [(⟨p.t, p.n, a', c', p.es ++ [⟨k.e, (v.get k t).1⟩]⟩ : PArc)]).map PArc.arc) → (P0 ++ [p]).length ≤ i + 1 → p.es.length ≤ i → (∀ p ∈ P0, p.es.length ≤ i) →
          Hs h (own a (P0 ++ [p]).length c T_api_Archive 3 ((P0 ++ [p]).flatMap arcV) :: Sp ((P0 ++ [p]).map entA) :: own ka ks.length kc T_api_Key 3 (ks.flatMap keyV) :: refA r v :: L) →
          ref12_Store_Dump.J2 (some ⟨r, 0, none⟩) t a (P0 ++ [p]).length c ka ks.length kc (i : Int) (m : Int) (ref12_Store_Dump.K1 Q) h := by
        intro h P0 p a c m hm hd hl1 hl2 hl3 H
        subst hm
        have hpos : (P0 ++ [p]).length = P0.length + 1 := by simp
        refine ref12_Store_Dump.J2_of (gk H fun t1 ht => ⟨_, _, _, ht, ?_⟩)
        refine RGet_hs (k := k) hv (by omega) H.m3 fun h4 H4 => ⟨_, _, rfl, ?_⟩
        have H4 : Hs h4 (own a (P0 ++ [p]).length c T_api_Archive 3 ((P0 ++ [p]).flatMap arcV) :: Sp ((P0 ++ [p]).map entA) :: own ka ks.length kc T_api_Key 3 (ks.flatMap keyV) :: refA r v :: L) := H4.sel 4 [1, 2, 3, 0]
        dsimp only
        rw [d1 (by omega) (by omega)]
        refine Hs.idx_at E_sl_api_Archive H4 (by decide) (by omega) (by omega) fun b off ea => ?_
        subst ea
        have hx : (P0 ++ [p])[P0.length]? = some p := by simp
        have hr := H4.own_rdc (i := P0.length) arcV_len hx
        have ei : (((P0 ++ [p]).length - 1 : Nat) : Int).toNat = P0.length := by rw [Int.toNat_natCast]; omega
        rw [ei]
        refine ⟨_, _, _, hr.2.2.1, gk H4 fun t2 ht2 => ⟨_, ht2.2.2.1, ?_⟩⟩
        refine ent_app (e := ⟨k.e, (v.get k t).1⟩) (by omega) H4 fun h5 a5 c5 H5 => ⟨_, _, _, rfl, ?_⟩
        have H5' := H5
        refine Hs.idx_at E_sl_api_Archive H5 (by decide) (by omega) (by omega) fun b2 off2 ea2 => ?_
        cases ea2
        rw [ei, add_mk]
        refine ent_wr (p := p) (p' := ⟨p.t, p.n, a5, c5, p.es ++ [⟨k.e, (v.get k t).1⟩]⟩) rfl rfl H5 fun h6 H6 => ?_
        rw [i1 (i := i) (by omega)]
        have hlen : (P0 ++ [p]).length = (P0 ++ [(⟨p.t, p.n, a5, c5, p.es ++ [⟨k.e, (v.get k t).1⟩]⟩ : PArc)]).length := by simp
        rw [hlen]
        refine ih (i + 1) (by omega) (by rw [← hP2, hd]) (by rw [← hlen]; omega) (fun q hq => ?_) H6
        rcases List.mem_append.1 hq with hq | hq
        · have := hl3 q hq; omega
        · rw [List.mem_singleton.1 hq]; simp; omega
      have J1t : (∀ P0 p, P = P0 ++ [p] → ¬ (p.t = k.t ∧ p.n = k.a)) → ref12_Store_Dump.J1 (some ⟨r, 0, none⟩) t a P.length c ka ks.length kc (i : Int) (P.length : Int) true (ref12_Store_Dump.K1 Q) h := by
        intro hne
        refine ref12_Store_Dump.J1_of (br_true rfl (gk H fun t1 ht1 => ⟨_, ht1.1, gk H fun t2 ht2 => ⟨_, ht2.2.1, ?_⟩⟩))
        refine arc_app (by omega) H fun h4 a' c' H4 => ⟨_, _, _, rfl, ?_⟩
        dsimp only
        rw [i1 (by omega)]
        exact J2 (p := ⟨k.t, k.a, none, 0, []⟩) _ (by simp) (fun a' c' => dstep_new hne) (by simp; omega) (by simp) hel H4
      refine ref12_Store_Dump.L1_of (br_true (decide_eq_true (by omega)) ((br_iff _ _ _).2 ⟨fun e => J1t (fun P0 p e2 => ?_), fun e => ?_⟩))
      · have := beq_iff_eq.1 e; rw [e2] at this; simp at this; omega
      · have hpos : 0 < P.length := by have := beq_eq_false_iff_ne.1 e; omega
        obtain ⟨P0, p, rfl⟩ := snoc_of hpos
        have hx : (P0 ++ [p])[P0.length]? = some p := by simp
        have ei : (((P0 ++ [p]).length - 1 : Nat) : Int).toNat = P0.length := by rw [Int.toNat_natCast]; simp
        rw [d1 hpos (by omega)]
        have el : ∀ {R : Addr → Heap → Prop}, (∀ t, rdCells h t 0 (arcV p) → R t h) → hwp PP (Instr.indexAt T_sl_api_Archive (.slice a (P0 ++ [p]).length c) (.int .i64 (((P0 ++ [p]).length - 1 : Nat) : Int))) (fun u h1 => ∃ t, u = .pointer (some t) ∧ R t h1) h := fun K =>
          idxf E_sl_api_Archive (φ := arcV) (l := P0 ++ [p]) (x := p) H.rd arcV_len (by decide) (by omega) (by omega) (by rw [ei]; exact hx) K
        refine el fun t1 ht1 => ⟨_, ht1.1, gk H fun t3 ht3 => ⟨_, ht3.1, (br_iff _ _ _).2 ⟨fun e1 => J1t fun P1 q e2 => ?_, fun e1 => ?_⟩⟩⟩
        · obtain ⟨_, e3⟩ := List.append_inj' e2 rfl
          have e3 : p = q := by simpa using e3
          subst e3
          simp at e1; exact fun q => e1 q.1
        · refine el fun t2 ht2 => ⟨_, ht2.2.1, gk H fun t4 ht4 => ⟨_, ht4.2.1, ?_⟩⟩
          cases e4 : (!decide (p.n = k.a)) with
          | true =>
            refine J1t fun P1 q e2 => ?_
            obtain ⟨_, e3⟩ := List.append_inj' e2 rfl
            have e3 : p = q := by simpa using e3
            subst e3
            simp at e4; exact fun q => e4 q.2
          | false =>
            have h1 : p.t = k.t := by simpa using e1
            have h2 : p.n = k.a := by simpa using e4
            exact ref12_Store_Dump.J1_of (br_false rfl (J2 _ rfl (fun a' c' => dstep_snoc ⟨h1, h2⟩) (by omega) (hel p (by simp)) (fun q hq => hel q (List.mem_append_left _ hq)) H))
  have H3 := (arcsA_open.1 (arcs_nil H2))
  obtain ⟨P, hP, H3⟩ := H3
  have : P = [] := List.map_eq_nil_iff.1 hP
  subst this
  exact go ks.length 0 (by omega) rfl (Nat.le_refl _) (by simp) H3
/-- Two rows of archives that say the same. -/
theorem Same_hs {a b : OA} {c d : Nat} {D : List Arc} (hmax : D.length < 2 ^ 40) (hm2 : ∀ x ∈ D, x.es.length < 2 ^ 40) (H : Hs h (arcsA a c D :: arcsA b d D :: L)) (k : ∀ h', Hs h' (arcsA a c D :: arcsA b d D :: L) → Q (.bool true) h') : SpecH PP F_ref12_Same [.slice a D.length c, .slice b D.length d] h Q := by
  obtain ⟨P1, e1, H1⟩ := arcsA_open.1 H
  obtain ⟨P2, e2, H2⟩ := arcsA_open.1 H1.m2
  have fin := k h H
  clear k H1
  have l1 : P1.length = D.length := by rw [← e1, List.length_map]
  have l2 : P2.length = D.length := by rw [← e2, List.length_map]
  refine ref12_Same.door (br_false (by simp) ?_)
  -- the archives and their entries
  have eP : ∀ {i : Nat} (hi : i < D.length), P1[i].t = P2[i].t ∧ P1[i].n = P2[i].n ∧ P1[i].es = P2[i].es ∧ P1[i].es.length < 2 ^ 40 := by
    intro i hi
    have q1 : P1[i].arc = D[i] := by subst e1; simp
    have q2 : P2[i].arc = D[i] := by simp [← e2]
    have q := q1.trans q2.symm
    unfold PArc.arc at q
    simp only [Arc.mk.injEq] at q
    refine ⟨q.1, q.2.1, q.2.2, ?_⟩
    have := hm2 _ (List.getElem_mem hi)
    rw [← q1] at this; exact this
  have A1 : ∀ {i : Nat} (hi : i < D.length) {R : Addr → Heap → Prop}, (∀ t, rdCells h t 0 (arcV P1[i]) → R t h) → hwp PP (Instr.indexAt T_sl_api_Archive (.slice a D.length c) (.int .i64 (i : Int))) (fun u h1 => ∃ t, u = .pointer (some t) ∧ R t h1) h := fun {i} hi {R} K => by
    rw [← l1]; exact idxf E_sl_api_Archive (φ := arcV) (l := P1) (x := P1[i]) (Hs.rd H2.m2) arcV_len (by decide) (by omega) (by omega) (by simp) K
  have A2 : ∀ {i : Nat} (hi : i < D.length) {R : Addr → Heap → Prop}, (∀ t, rdCells h t 0 (arcV P2[i]) → R t h) → hwp PP (Instr.indexAt T_sl_api_Archive (.slice b D.length d) (.int .i64 (i : Int))) (fun u h1 => ∃ t, u = .pointer (some t) ∧ R t h1) h := fun {i} hi {R} K => by
    rw [← l2]; exact idxf E_sl_api_Archive (φ := arcV) (l := P2) (x := P2[i]) (Hs.rd H2) arcV_len (by decide) (by omega) (by omega) (by simp) K
  have B1 : ∀ {i : Nat} (hi : i < D.length), Rd h P1[i].a (P1[i].es.flatMap entV) := fun {i} hi => by
    have F := Hs.focus (As := P1.map entA) (i := i) (A := entA P1[i]) (by rw [List.getElem?_map, List.getElem?_eq_getElem (by omega)]; rfl) H2.m3
    exact Hs.rd F
  have B2 : ∀ {i : Nat} (hi : i < D.length), Rd h P2[i].a (P2[i].es.flatMap entV) := fun {i} hi => by
    have F := Hs.focus (As := P2.map entA) (i := i) (A := entA P2[i]) (by rw [List.getElem?_map, List.getElem?_eq_getElem (by omega)]; rfl) H2.m1
    exact Hs.rd F
  have go : ∀ (n i : Nat), n + i = D.length → ref12_Same.L1 a D.length c b D.length d (i : Int) (ref12_Same.K1 Q) h := by
    intro n
    induction n with
    | zero => intro i hi; exact ref12_Same.L1_of (br_false (decide_eq_false (by omega)) (ref12_Same.L1_X0 fin))
    | succ n ih =>
      intro i hi
      have hil : i < D.length := by omega
      obtain ⟨q1, q2, q3, q4⟩ := eP hil
      refine ref12_Same.L1_of (br_true (decide_eq_true (by omega)) (A1 hil fun t1 ht1 => ⟨_, ht1.1, A2 hil fun t2 ht2 => ⟨_, ht2.1, br_false (by simp [q1]) ?_⟩⟩))
      refine A1 hil fun t1 ht1 => ⟨_, ht1.2.1, A2 hil fun t2 ht2 => ⟨_, ht2.2.1, br_false (by simp [q2]) ?_⟩⟩
      refine A1 hil fun t1 ht1 => ⟨_, _, _, ht1.2.2.1, A2 hil fun t2 ht2 => ⟨_, _, _, ht2.2.2.1, ?_⟩⟩
      refine ref12_Same.J1_of (br_false (by simp [q3]) ?_)
      have go2 : ∀ (m j : Nat), m + j = P1[i].es.length → ref12_Same.L2 a D.length c b D.length d (i : Int) (j : Int) (ref12_Same.K3 (ref12_Same.K1 Q)) h := by
        intro m
        induction m with
        | zero =>
          intro j hj
          refine ref12_Same.L2_of (A1 hil fun t1 ht1 => ⟨_, _, _, ht1.2.2.1, br_false (decide_eq_false (by omega)) (ref12_Same.L2_X2 ?_)⟩)
          dsimp only
          rw [i1 (i := i) (by omega)]
          exact ih (i + 1) (by omega)
        | succ m ihm =>
          intro j hj
          have hj2 : j < P2[i].es.length := by rw [← q3]; omega
          refine ref12_Same.L2_of (A1 hil fun t1 ht1 => ⟨_, _, _, ht1.2.2.1, br_true (decide_eq_true (by omega)) (A1 hil fun t1 ht1 => ⟨_, _, _, ht1.2.2.1, ?_⟩)⟩)
          refine idxf E_sl_api_Entry (φ := entV) (l := P1[i].es) (x := P1[i].es[j]) (B1 hil) entV_len (by decide) (by omega) (by omega) (by simp) fun t3 ht3 => ⟨_, _, ht3, A2 hil fun t2 ht2 => ⟨_, _, _, ht2.2.2.1, ?_⟩⟩
          refine idxf E_sl_api_Entry (φ := entV) (l := P2[i].es) (x := P2[i].es[j]) (B2 hil) entV_len (by decide) (by omega) (by omega) (by simp) fun t4 ht4 => ⟨_, _, ht4, br_false (by simp [q3]) ?_⟩
          dsimp only
          rw [i1 (i := j) (by omega)]
          exact ihm (j + 1) (by omega)
      exact go2 _ 0 rfl
  exact go D.length 0 (by omega)
/-- Two rows of texts that say the same. -/
theorem KTexts_hs {a b : OA} {n c d : Nat} {l : List ByteArray} (ha : Gv L a (l.map Value.string)) (hb : Gv L b (l.map Value.string)) (hn : l.length = n) (hmax : n < 2 ^ 62) (H : Hs h L) (k : Q (.bool true) h) : SpecH PP F_keep_Texts [.slice a n c, .slice b n d] h Q := by
  refine keep_Texts.door (br_false (by simp) ?_)
  have go : ∀ (r i : Nat), r + i = n → keep_Texts.L1 a n c b n d i (keep_Texts.K1 Q) h := by
    intro r
    induction r with
    | zero => intro i hi; exact keep_Texts.L1_of (br_false (decide_eq_false (by omega)) (keep_Texts.L1_X0 k))
    | succ r ih =>
      intro i hi
      refine keep_Texts.L1_of (br_true (decide_eq_true (by omega)) ?_)
      refine idx (i := (i : Int)) (v := .string l[i]) E_sl_string (ha _ H) (by omega) (by omega) (by simp) fun t ht => ⟨_, ht, ?_⟩
      refine idx (i := (i : Int)) (v := .string l[i]) E_sl_string (hb _ H) (by omega) (by omega) (by simp) fun t ht => ⟨_, ht, br_false (by simp) ?_⟩
      dsimp only
      rw [i1 (i := i) (by omega)]
      exact ih (i + 1) (by omega)
  exact go n 0 (by omega)
end Go.Proofs.Ytjkfngolgjbakaa

set_option linter.unusedVariables false
set_option linter.unusedSimpArgs false
namespace Go.Proofs.Ytjkfngolgjbakaa
open Go Go.HW
structure Lk (v : CS) (r : RS) : Prop where
  vs : ∀ k, v.vs k = r.vs k
  now : v.now = r.now
  floor : v.floor = r.floor
  ci : CI v
  ri : RI r
theorem Lk.new : Lk .new ⟨[], 0, 0⟩ := ⟨fun _ => rfl, rfl, rfl, CI.new, ⟨List.Pairwise.nil, by simp, by simp, by simp⟩⟩
theorem Lk.get {v : CS} {r : RS} (h : Lk v r) (k : Key) (t : Int) : v.get k t = r.get k t := by unfold CS.get RS.get; rw [h.vs, h.floor]
theorem fold_last {vs : List Ver} (hr : Rising vs) : ∀ {b : Int}, (∀ x ∈ vs, b < x.at_) → vs.foldl (fun n x => if x.at_ > n then x.at_ else n) b = match vs.getLast? with | some x => x.at_ | none => b := by
  induction vs with
  | nil => intro b _; rfl
  | cons x vs ih =>
    intro b hb
    have hc := List.pairwise_cons.1 hr
    rw [List.foldl_cons, if_pos (hb x (List.mem_cons_self ..)), ih hc.2 hc.1, List.getLast?_cons]
    cases vs.getLast? <;> rfl
theorem Lk.last {v : CS} {r : RS} (h : Lk v r) (k : Key) : v.last k = r.last k := by
  unfold CS.last RS.last
  rw [h.vs k]
  refine Eq.trans ?_ (fold_last (RS.vs_rise h.ri k) ?_).symm
  · rfl
  intro x hx
  unfold RS.vs at hx
  obtain ⟨y, hy, rfl⟩ := List.mem_map.1 hx
  exact h.ri.pos y (List.mem_filter.1 hy).1
theorem filter_two {α : Type} {p q : α → Bool} : ∀ {l : List α}, (∀ y, ¬ (p y = true ∧ q y = true)) → (l.filter p).length + (l.filter q).length = (l.filter fun y => p y || q y).length
  | [], _ => rfl
  | y :: l, h => by
    have ih := filter_two (l := l) h
    have hy := h y
    rw [List.filter_cons, List.filter_cons, List.filter_cons]
    cases e1 : p y <;> cases e2 : q y <;> simp [e1, e2] at hy ⊢ <;> omega
theorem sum_filter {l : List RV} : ∀ {ch : List (Key × List Ver)}, (ch.map (·.1)).Nodup → (∀ x ∈ ch, x.2.length = (l.filter fun y => decide (y.k = x.1)).length) → (ch.map fun x => x.2.length).sum = (l.filter fun y => (ch.map (·.1)).contains y.k).length
  | [], _, _ => by
    show 0 = (l.filter fun y => false).length
    rw [List.filter_eq_nil_iff.2 (by simp)]; rfl
  | x :: ch, hn, h => by
    rw [List.map_cons, List.nodup_cons] at hn
    have e : (fun y : RV => ((x :: ch).map (·.1)).contains y.k) = fun y => decide (y.k = x.1) || (ch.map (·.1)).contains y.k := by
      funext y; rw [List.map_cons, List.contains_cons]; rfl
    rw [List.map_cons, List.sum_cons, sum_filter hn.2 fun y hy => h y (List.mem_cons_of_mem _ hy), h x (List.mem_cons_self ..), e, filter_two]
    rintro y ⟨h1, h2⟩
    rw [of_decide_eq_true h1] at h2
    exact hn.1 (by simpa using h2)
theorem Lk.total {v : CS} {r : RS} (h : Lk v r) : v.total = r.l.length := by
  unfold CS.total
  rw [sum_filter (l := r.l) h.ci.keys fun x hx => ?_]
  · rw [List.filter_eq_self.2]
    intro x hx
    have h1 : r.vs x.k ≠ [] := by
      unfold RS.vs
      intro q
      have := List.map_eq_nil_iff.1 q
      have := List.filter_eq_nil_iff.1 this x hx
      simp at this
    rw [← h.vs] at h1
    unfold CS.vs at h1
    cases e : mget v.ch x.k with
    | none => rw [e] at h1; exact absurd rfl h1
    | some y =>
      have : x.k ∈ v.ch.map (·.1) := List.mem_map.2 ⟨_, mget_mem e, rfl⟩
      simpa using this
  · have h1 : v.vs x.1 = x.2 := by unfold CS.vs; rw [mget_of_mem h.ci.keys hx]; rfl
    rw [← h1, h.vs]; unfold RS.vs; rw [List.length_map]
/-! ### Put -/
theorem put1_vs (v : CS) (a : Int) (w : Wr) (k : Key) : (v.put1 a w).vs k = if w.k = k then putV (v.vs k) (wver a w) else v.vs k := by
  unfold CS.put1 CS.vs
  simp only
  rw [mget_mset]
  by_cases e : w.k = k
  · rw [if_pos e, if_pos e, e]; rfl
  · rw [if_neg e, if_neg e]
theorem putV_mem {vs : List Ver} {x y : Ver} (h : y ∈ putV vs x) : y = x ∨ y ∈ vs := by
  unfold putV at h
  split at h
  · split at h
    · rcases List.mem_append.1 h with h | h
      · exact .inr ((List.dropLast_sublist _).subset h)
      · exact .inl (List.mem_singleton.1 h)
    · rcases List.mem_append.1 h with h | h
      · exact .inr h
      · exact .inl (List.mem_singleton.1 h)
  · rcases List.mem_append.1 h with h | h
    · exact .inr h
    · exact .inl (List.mem_singleton.1 h)
theorem putV_ne (vs : List Ver) (x : Ver) : putV vs x ≠ [] := by
  unfold putV; split
  · split <;> simp
  · simp
theorem putV_rise {vs : List Ver} {x : Ver} (h : Rising vs) (hm : ∀ y ∈ vs, y.at_ ≤ x.at_) : Rising (putV vs x) := by
  unfold putV Rising at *
  rcases List.eq_nil_or_concat vs with e | ⟨l, y, e⟩
  · subst e; simp
  · rw [List.concat_eq_append] at e
    subst e
    rw [List.getLast?_concat]
    simp only [List.dropLast_concat]
    rw [List.pairwise_append] at h
    have hlast := hm y (by simp)
    split
    · rename_i q
      refine List.pairwise_append.2 ⟨h.1, List.pairwise_singleton .., fun a ha b hb => ?_⟩
      have := h.2.2 a ha y (by simp)
      rw [List.mem_singleton.1 hb]; omega
    · rename_i q
      refine List.pairwise_append.2 ⟨List.pairwise_append.2 h, List.pairwise_singleton .., fun a ha b hb => ?_⟩
      rw [List.mem_singleton.1 hb]
      rcases List.mem_append.1 ha with ha | ha
      · have := h.2.2 a ha y (by simp); omega
      · rw [List.mem_singleton.1 ha]; omega
theorem mem_mset {α β : Type} [DecidableEq α] {l : List (α × β)} {k : α} {b : β} {x : α × β} (h : x ∈ mset l k b) : x = (k, b) ∨ x ∈ l := by
  induction l with
  | nil => simp [mset] at h; exact .inl h
  | cons y l ih =>
    rw [mset] at h
    split at h
    · rcases List.mem_cons.1 h with h | h
      · exact .inl h
      · exact .inr (List.mem_cons_of_mem _ h)
    · rcases List.mem_cons.1 h with h | h
      · exact .inr (h ▸ List.mem_cons_self ..)
      · rcases ih h with h | h
        · exact .inl h
        · exact .inr (List.mem_cons_of_mem _ h)
theorem vs_mem {v : CS} {k : Key} {y : Ver} (h : y ∈ v.vs k) : ∃ x ∈ v.ch, y ∈ x.2 := by
  unfold CS.vs at h
  cases e : mget v.ch k with
  | none => rw [e] at h; cases h
  | some x => rw [e] at h; exact ⟨_, mget_mem e, h⟩
theorem CI.put1 {v : CS} {a : Int} {w : Wr} (h : CI v) (hn : v.now = a) (hp : 0 < a) : CI (v.put1 a w) where
  keys := nodup_mset h.keys _ _
  ne x hx := by rcases mem_mset hx with rfl | hx; exact putV_ne _ _; exact h.ne x hx
  rise x hx := by
    rcases mem_mset hx with rfl | hx
    · refine putV_rise (CS.vs_rise h _) fun y hy => ?_
      obtain ⟨z, hz, hyz⟩ := vs_mem hy
      have := h.now z hz y hyz
      show y.at_ ≤ a; omega
    · exact h.rise x hx
  now x hx y hy := by
    show y.at_ ≤ v.now
    rcases mem_mset hx with rfl | hx
    · rcases putV_mem hy with rfl | hy
      · exact Int.le_of_eq hn.symm
      · obtain ⟨z, hz, hyz⟩ := vs_mem hy; exact h.now z hz y hyz
    · exact h.now x hx y hy
  pos x hx y hy := by
    rcases mem_mset hx with rfl | hx
    · rcases putV_mem hy with rfl | hy
      · exact hp
      · obtain ⟨z, hz, hyz⟩ := vs_mem hy; exact h.pos z hz y hyz
    · exact h.pos x hx y hy
  floor := h.floor
theorem rput_vs {r : RS} {a : Int} {w : Wr} (h : RI r) (hn : r.now = a) (k : Key) : (r.put1 a w).vs k = if w.k = k then putV (r.vs k) (wver a w) else r.vs k := by
  have hle : ∀ x ∈ r.l, x.at_ ≤ a := fun x hx => by rw [← hn]; exact h.now x hx
  show ((putL r.l (wrv a w)).filter fun x => decide (x.k = k)).map RV.ver = _
  unfold RS.vs putL
  cases e : r.l.findIdx? (same (wrv a w)) with
  | none =>
    rw [List.findIdx?_eq_none_iff] at e
    simp only [List.filter_append, List.map_append]
    by_cases q : w.k = k
    · rw [if_pos q, List.filter_cons, if_pos (by exact decide_eq_true q), List.filter_nil]
      unfold putV
      rcases List.eq_nil_or_concat (r.l.filter fun x => decide (x.k = k)) with z | ⟨l0, y, z⟩
      · rw [z]; rfl
      · rw [List.concat_eq_append] at z
        have hy : y ∈ r.l.filter fun x => decide (x.k = k) := by rw [z]; simp
        rw [List.mem_filter] at hy
        have h2 := e y hy.1
        unfold same at h2
        rw [show (wrv a w).k = k from q, hy.2, Bool.true_and] at h2
        have h2 : ¬ y.ver.at_ = (wver a w).at_ := of_decide_eq_false h2
        simp only [z, List.map_append, List.map_cons, List.map_nil, List.getLast?_concat]
        rw [if_neg h2]; rfl
    · rw [if_neg q, List.filter_cons, if_neg (by exact fun z => q (of_decide_eq_true z)), List.filter_nil, List.map_nil, List.append_nil]
  | some j =>
    obtain ⟨hj, e1, _⟩ := find_some e
    unfold same at e1
    rw [Bool.and_eq_true, decide_eq_true_eq, decide_eq_true_eq] at e1
    have e2 : r.l[j].k = w.k := e1.1
    have e3 : r.l[j].at_ = a := e1.2
    have hsplit : r.l = r.l.take j ++ r.l[j] :: r.l.drop (j + 1) := by rw [← List.drop_eq_getElem_cons hj, List.take_append_drop]
    show (((r.l.set j (wrv a w)).filter fun x => decide (x.k = k)).map RV.ver) = _
    rw [List.set_eq_take_append_cons_drop, if_pos hj]
    by_cases q : w.k = k
    · have hd : (r.l.drop (j + 1)).filter (fun x => decide (x.k = k)) = [] := by
        rw [List.filter_eq_nil_iff]
        intro y hy hyk
        obtain ⟨n, hn, rfl⟩ := List.mem_iff_getElem.1 hy
        rw [List.length_drop] at hn
        rw [List.getElem_drop] at hyk
        have := List.pairwise_iff_getElem.1 h.rise j (j + 1 + n) hj (by omega) (by omega) (by rw [e2, q]; exact (of_decide_eq_true hyk).symm)
        have := hle _ (List.getElem_mem (l := r.l) (n := j + 1 + n) (by omega))
        omega
      rw [if_pos q]
      conv => rhs; rw [hsplit]
      simp only [List.filter_append, List.filter_cons, hd]
      rw [if_pos (by exact decide_eq_true q), if_pos (by rw [e2]; exact decide_eq_true q)]
      unfold putV
      rw [List.map_append, List.map_append]
      simp only [List.map_cons, List.map_nil, List.getLast?_concat, List.dropLast_concat]
      rw [if_pos (by exact e3)]; rfl
    · rw [if_neg q]
      conv => rhs; rw [hsplit]
      simp only [List.filter_append, List.filter_cons]
      rw [if_neg (by exact fun z => q (of_decide_eq_true z)), if_neg (by rw [e2]; exact fun z => q (of_decide_eq_true z))]
theorem Lk.put1 {v : CS} {r : RS} (h : Lk v r) {a : Int} (hn : v.now = a) (hp : 0 < a) (w : Wr) : Lk (v.put1 a w) (r.put1 a w) where
  vs k := by rw [put1_vs, rput_vs h.ri (by rw [← h.now]; exact hn), h.vs]
  now := h.now
  floor := h.floor
  ci := h.ci.put1 hn hp
  ri := h.ri.put1 (by rw [← h.now]; exact hn) hp
theorem Lk.puts {a : Int} (hp : 0 < a) : ∀ (ws : List Wr) {v : CS} {r : RS}, Lk v r → v.now = a → Lk (ws.foldl (CS.put1 a) v) (ws.foldl (RS.put1 a) r)
  | [], _, _, h, _ => h
  | w :: ws, _, _, h, hn => Lk.puts hp ws (h.put1 hn hp w) hn
theorem CI.now_up {v : CS} (h : CI v) {a : Int} (ha : v.now ≤ a) : CI { v with now := a } := ⟨h.keys, h.ne, h.rise, fun x hx y hy => by have := h.now x hx y hy; show y.at_ ≤ a; omega, h.pos, ⟨h.floor.1, by have := h.floor.2; show v.floor ≤ a; omega⟩⟩
theorem Lk.put {v : CS} {r : RS} (h : Lk v r) {a : Int} (ha : v.now < a) (ws : List Wr) : Lk (v.put a ws) (r.put a ws) := by
  have hf := h.ci.floor
  refine Lk.puts (by omega) ws ⟨h.vs, rfl, h.floor, h.ci.now_up (by omega), ⟨h.ri.rise, fun x hx => ?_, h.ri.pos, ⟨h.ri.floor.1, ?_⟩⟩⟩ rfl
  · have := h.ri.now x hx; have := h.now; show x.at_ ≤ a; omega
  · have := h.ri.floor.2; have := h.now; show r.floor ≤ a; omega
/-! ### Prune -/
theorem pick_max {vs : List Ver} (hr : Rising vs) {f : Int} {y : Ver} (e : pick vs f = some y) : y ∈ vs ∧ y.at_ ≤ f ∧ ∀ w ∈ vs, w.at_ ≤ f → w.at_ ≤ y.at_ := by
  induction vs with
  | nil => cases e
  | cons x vs ih =>
    have hc := List.pairwise_cons.1 hr
    unfold pick at e
    by_cases q : x.at_ ≤ f
    · rw [List.takeWhile_cons_of_pos (by simpa using q), List.getLast?_cons] at e
      cases e2 : (vs.takeWhile fun v => decide (v.at_ ≤ f)).getLast? with
      | none =>
        rw [e2] at e
        have e : x = y := by simpa using e
        subst e
        refine ⟨List.mem_cons_self .., q, fun w hw hwf => ?_⟩
        rcases List.mem_cons.1 hw with rfl | hw
        · exact Int.le_refl _
        · exfalso
          have hnil : vs.takeWhile (fun v => decide (v.at_ ≤ f)) = [] := by simpa using e2
          cases vs with
          | nil => cases hw
          | cons z vs =>
            have hz : ¬ z.at_ ≤ f := by
              intro q
              rw [List.takeWhile_cons_of_pos (by simpa using q)] at hnil; cases hnil
            have hzw : z.at_ ≤ w.at_ := by
              rcases List.mem_cons.1 hw with rfl | hw
              · exact Int.le_refl _
              · have := (List.pairwise_cons.1 hc.2).1 w hw; omega
            omega
      | some u =>
        rw [e2] at e
        have e : u = y := by simpa using e
        subst e
        obtain ⟨h1, h2, h3⟩ := ih hc.2 e2
        refine ⟨List.mem_cons_of_mem _ h1, h2, fun w hw hwf => ?_⟩
        rcases List.mem_cons.1 hw with rfl | hw
        · have := hc.1 u h1; omega
        · exact h3 w hw hwf
    · rw [List.takeWhile_cons_of_neg (by simpa using q)] at e; cases e
theorem all_new {vs : List Ver} (hr : Rising vs) {f : Int} (h : cnt vs f = 0) : ∀ w ∈ vs, w.at_ > f := by
  intro w hw
  cases vs with
  | nil => cases hw
  | cons z vs =>
    have hz : ¬ z.at_ ≤ f := by
      intro q
      unfold cnt at h
      rw [List.takeWhile_cons_of_pos (by simpa using q)] at h; simp at h
    rcases List.mem_cons.1 hw with rfl | hw
    · omega
    · have := (List.pairwise_cons.1 hr).1 w hw; omega
theorem filter_pr {f : Int} : ∀ {vs : List Ver}, Rising vs → vs.filter (fun y => decide (y.at_ > f) || (decide (pick vs f = some y) && y.there)) = prV f vs
  | [], _ => rfl
  | x :: vs, hr => by
    have hc := List.pairwise_cons.1 hr
    by_cases q : x.at_ ≤ f
    · have hcnt : cnt (x :: vs) f = cnt vs f + 1 := by unfold cnt; rw [List.takeWhile_cons_of_pos (by simpa using q)]; rfl
      have hpk : pick (x :: vs) f = some ((pick vs f).getD x) := by unfold pick; rw [List.takeWhile_cons_of_pos (by simpa using q), List.getLast?_cons]
      cases e : pick vs f with
      | none =>
        have h0 : cnt vs f = 0 := by
          rcases Nat.eq_zero_or_pos (cnt vs f) with z | z
          · exact z
          · rw [pick_some z] at e; cases e
        have hall := all_new hc.2 h0
        rw [e] at hpk
        have hpk : pick (x :: vs) f = some x := hpk
        have hpr : prn f (x :: vs) = if x.there then 0 else 1 := by unfold prn; rw [hpk, hcnt, h0]
        have hfv : vs.filter (fun y => decide (y.at_ > f) || (decide (pick (x :: vs) f = some y) && y.there)) = vs := by
          rw [List.filter_eq_self]; intro y hy; rw [decide_eq_true (hall y hy)]; rfl
        rw [List.filter_cons, hfv, hpk, show decide (x.at_ > f) = false from decide_eq_false (by omega), Bool.false_or, decide_eq_true rfl, Bool.true_and]
        unfold prV
        rw [hpr]
        cases x.there <;> rfl
      | some u =>
        have hu := pick_max hc.2 e
        rw [e] at hpk
        have hpk : pick (x :: vs) f = some u := hpk
        have hxu : u ≠ x := fun z => by have := hc.1 u hu.1; rw [z] at this; omega
        have hpos : 0 < cnt vs f := by
          rcases Nat.eq_zero_or_pos (cnt vs f) with z | z
          · rw [pick_none z] at e; cases e
          · exact z
        have hpr : prn f (x :: vs) = prn f vs + 1 := by
          unfold prn; rw [hpk, e, hcnt]
          simp only
          split <;> omega
        rw [List.filter_cons, if_neg (by
          rw [hpk, show decide (x.at_ > f) = false from decide_eq_false (by omega), Bool.false_or, decide_eq_false (fun z => hxu (by simpa using z)), Bool.false_and]; simp)]
        unfold prV
        rw [hpr, List.drop_succ_cons]
        have := filter_pr (f := f) hc.2
        unfold prV at this
        rw [← this, e, hpk]
    · have hall : ∀ y ∈ x :: vs, y.at_ > f := fun y hy => by
        rcases List.mem_cons.1 hy with rfl | hy
        · omega
        · have := hc.1 y hy; omega
      have h0 : cnt (x :: vs) f = 0 := by unfold cnt; rw [List.takeWhile_cons_of_neg (by simpa using q)]; rfl
      have hpr : prn f (x :: vs) = 0 := by unfold prn; rw [pick_none h0, h0]
      rw [List.filter_eq_self.2 fun y hy => by rw [decide_eq_true (hall y hy)]; rfl]
      unfold prV; rw [hpr]; rfl
theorem rprune_vs {r : RS} (h : RI r) (f : Int) (k : Key) : (r.prune f).vs k = prV f (r.vs k) := by
  rw [← filter_pr (RS.vs_rise h k)]
  unfold RS.prune
  show (((r.l.filter (keepB r.l f)).filter fun x => decide (x.k = k)).map RV.ver) = _
  rw [List.filter_filter]
  have hcomm : (r.l.filter fun x => decide (x.k = k) && keepB r.l f x) = (r.l.filter fun x => decide (x.k = k)).filter (keepB r.l f) := by
    rw [List.filter_filter]; congr 1; funext x; rw [Bool.and_comm]
  rw [hcomm]
  have key : ∀ x ∈ r.l.filter (fun x => decide (x.k = k)), keepB r.l f x = (decide (x.ver.at_ > f) || (decide (pick (r.vs k) f = some x.ver) && x.ver.there)) := by
    intro x hx
    rw [List.mem_filter, decide_eq_true_eq] at hx
    unfold keepB
    have : newestB r.l f x = decide (pick (r.vs k) f = some x.ver) := by
      have hxm : x.ver ∈ r.vs k := List.mem_map_of_mem (List.mem_filter.2 ⟨hx.1, decide_eq_true hx.2⟩)
      rw [Bool.eq_iff_iff, newestB_iff, decide_eq_true_eq]
      constructor
      · rintro ⟨h1, h2⟩
        refine pick_of (RS.vs_rise h k) hxm h1 fun w hw hwf => ?_
        obtain ⟨y, hy, rfl⟩ := List.mem_map.1 hw
        rw [List.mem_filter, decide_eq_true_eq] at hy
        exact h2 y hy.1 (hy.2.trans hx.2.symm) hwf
      · intro e
        obtain ⟨_, h2, h3⟩ := pick_max (RS.vs_rise h k) e
        refine ⟨h2, fun y hy hyk hyf => ?_⟩
        exact h3 y.ver (List.mem_map_of_mem (List.mem_filter.2 ⟨hy, decide_eq_true (hyk.trans hx.2)⟩)) hyf
    rw [this]; rfl
  rw [List.filter_congr key]
  show _ = ((r.l.filter fun x => decide (x.k = k)).map RV.ver).filter _
  rw [List.filter_map]; rfl
theorem pruned_vs {v v' : CS} {f : Int} {g : Nat} (h : Pruned v v' f g) (k : Key) : v'.vs k = prV f (v.vs k) := by
  unfold CS.vs
  rw [h.get k]
  cases e : mget v.ch k with
  | none => rfl
  | some x =>
    show (if prV f x = [] then none else some (prV f x)).getD [] = prV f x
    split
    · rename_i q; rw [q]; rfl
    · rfl
theorem Pruned.ci {v v' : CS} {f : Int} {g : Nat} (h : Pruned v v' f g) (c : CI v) (hf : 0 ≤ f ∧ f ≤ v.now) : CI v' := by
  have sub : ∀ x ∈ v'.ch, ∃ y, (x.1, y) ∈ v.ch ∧ x.2 = prV f y ∧ x.2 ≠ [] := by
    intro x hx
    have hg := mget_of_mem h.nd hx
    rw [h.get] at hg
    cases e : mget v.ch x.1 with
    | none => rw [e] at hg; cases hg
    | some y =>
      rw [e] at hg
      have hg : (if prV f y = [] then none else some (prV f y)) = some x.2 := hg
      split at hg
      · cases hg
      · rename_i q
        have hg := Option.some.inj hg
        exact ⟨y, mget_mem e, hg.symm, hg ▸ q⟩
  refine ⟨h.nd, fun x hx => ?_, fun x hx => ?_, fun x hx y hy => ?_, fun x hx y hy => ?_, ?_⟩
  · obtain ⟨_, _, _, q⟩ := sub x hx; exact q
  · obtain ⟨y, hy, e, _⟩ := sub x hx
    rw [e]; exact (c.rise _ hy).sublist (List.drop_sublist ..)
  · obtain ⟨z, hz, e, _⟩ := sub x hx
    rw [e] at hy; rw [h.now]; exact c.now _ hz y (List.mem_of_mem_drop hy)
  · obtain ⟨z, hz, e, _⟩ := sub x hx
    rw [e] at hy; exact c.pos _ hz y (List.mem_of_mem_drop hy)
  · rw [h.floor, h.now]; exact hf
theorem Lk.prune {v v' : CS} {r : RS} {f : Int} {g : Nat} (h : Lk v r) (p : Pruned v v' f g) (hf : 0 ≤ f ∧ f ≤ v.now) : Lk v' (r.prune f) ∧ (g : Int) = (r.l.length : Int) - ((r.prune f).l.length : Int) := by
  have l : Lk v' (r.prune f) := ⟨fun k => by rw [pruned_vs p, rprune_vs h.ri, h.vs], by rw [p.now]; exact h.now, p.floor, p.ci h.ci hf,
    ⟨h.ri.rise.filter _, fun x hx => h.ri.now x (List.mem_filter.1 hx).1, fun x hx => h.ri.pos x (List.mem_filter.1 hx).1, by show 0 ≤ f ∧ f ≤ r.now; rw [← h.now]; exact hf⟩⟩
  refine ⟨l, ?_⟩
  have h1 := p.tot
  rw [l.total, h.total] at h1
  omega
end Go.Proofs.Ytjkfngolgjbakaa

set_option maxRecDepth 20000
set_option linter.unusedVariables false
set_option linter.unusedSimpArgs false
namespace Go.Proofs.Ytjkfngolgjbakaa
open Go Go.HW
variable {h : Heap} {L : List Assn} {Q : Value → Heap → Prop}
def keyX (s : ByteArray) : Key := ⟨⟨#[116]⟩, ⟨#[120]⟩, s⟩
theorem key_hs {s : ByteArray} (H : Hs h L) (k : ∀ h', Hs h' L → Q (keyA (keyX s)) h') : SpecH PP F_law12_key [.string s] h Q := by
  refine law12_key.door ?_
  refine Hs.wrs (xs := [.string ⟨#[]⟩, .string ⟨#[]⟩, .string ⟨#[]⟩]) H.new (fun h2 H2 => ⟨_, _, _, H2.rdc0, k h2 H2.tl⟩)
theorem box_hs {x : Key} (H : Hs h L) (k : ∀ h', Hs h' L → Q (bxA ⟨x.t, x.a⟩) h') : SpecH PP F_law12_box [keyA x] h Q := by
  refine law12_box.door ?_
  dsimp only
  have H1 := (H.new (t := T_api_Key) (cs := (keyV x).toArray) (xs := keyV x)).new (t := T_api_Box) (cs := #[.string ⟨#[]⟩, .string ⟨#[]⟩]) (xs := [.string ⟨#[]⟩, .string ⟨#[]⟩])
  refine ⟨_, H1.m1.cell (off := 0) rfl, _, H1.m1.cell (off := 1) rfl, ?_⟩
  exact H1.wrs (fun h2 H2 => ⟨_, _, H2.rdc0, k h2 H2.tl.tl⟩)
def ka : Key := keyX ⟨#[97]⟩
def one : ByteArray := ⟨#[111, 110, 101]⟩
def aw1 : Wr := ⟨ka, true, one⟩
def aw2 : Wr := ⟨ka, false, ⟨#[]⟩⟩
def av : CS := (CS.new.put 3 [aw1]).put 5 [aw2]
def ar : RS := ((⟨[], 0, 0⟩ : RS).put 3 [aw1]).put 5 [aw2]
theorem av_lk : Lk av ar := (Lk.new.put (by decide) _).put (by decide) _
theorem aw_hs (H : Hs h L) (k : ∀ h', Hs h' L → Q (.bool true) h') : SpecH PP F_law12_awake [] h Q := by
  refine law12_awake.door ?_
  refine CNew_hs H fun h1 s H1 => ⟨_, rfl, br_false rfl ?_⟩
  refine key_hs H1 fun h2 H2 => ⟨_, _, _, rfl, ?_⟩
  dsimp only
  refine Hs.wrs (xs := [.string ⟨#[]⟩, .string ⟨#[]⟩, .string ⟨#[]⟩]) H2.new (fun h4 H4 => ⟨_, _, _, H4.rdc0, ?_⟩)
  generalize Array.size h2 = k2 at H4 ⊢
  have H5 := H4.new (t := T_api_Write) (cs := (wrV aw1).toArray) (xs := [aw1].flatMap wrV)
  refine Put_hs (x := ⟨3, some ⟨Array.size h4, 0, none⟩, 1, 1, [aw1]⟩) (by show CS.new.total + 1 < 2 ^ 40; decide) ⟨Gv.pt, rfl, (by decide : (1 : Nat) < 2 ^ 60)⟩ H5.m2 (fun hle => absurd (show (3 : Int) ≤ CS.new.now from hle) (by decide)) fun _ h6 H6 => ⟨_, rfl, ?_⟩
  have H6 : Hs h6 (storeA s (CS.new.put 3 [aw1]) :: pt k2 T_api_Key (keyV ka) :: L) := H6.sel 3 [0, 2]
  refine Put_hs (v := CS.new.put 3 [aw1]) (x := ⟨3, none, 0, 0, []⟩) (by decide +kernel) ⟨fun h H => Rd.nil _ _, rfl, (by decide : (0 : Nat) < 2 ^ 60)⟩ H6 (fun _ h7 H7 => ⟨_, rfl, ?_⟩) fun hlt => absurd hlt (by decide)
  refine ⟨_, _, _, H7.m1.rdc0, ?_⟩
  have H8 := H7.new (t := T_api_Write) (cs := (wrV aw2).toArray) (xs := [aw2].flatMap wrV)
  refine Put_hs (v := CS.new.put 3 [aw1]) (x := ⟨5, some ⟨Array.size h7, 0, none⟩, 1, 1, [aw2]⟩) (by show (CS.new.put 3 [aw1]).total + 1 < 2 ^ 40; decide +kernel) ⟨Gv.pt, rfl, (by decide : (1 : Nat) < 2 ^ 60)⟩ H8.m1 (fun hle => absurd (show (5 : Int) ≤ (CS.new.put 3 [aw1]).now from hle) (by decide)) fun _ h9 H9 => ⟨_, rfl, ?_⟩
  have H9 : Hs h9 (storeA s av :: pt k2 T_api_Key (keyV ka) :: L) := H9.sel 3 [0, 2]
  have hb : av.total < 2 ^ 39 := by rw [av_lk.total]; decide +kernel
  have ci := av_lk.ci
  refine ⟨_, _, _, H9.m1.rdc0, Get_hs (k := ka) ci (by omega) H9 fun h10 H10 => ?_⟩
  rw [av_lk.get, show ar.get ka 2 = (⟨#[]⟩, false) by decide +kernel]
  refine ⟨_, _, rfl, _, _, _, H10.m1.rdc0, Get_hs (k := ka) ci (by omega) H10 fun h11 H11 => ?_⟩
  rw [av_lk.get, show ar.get ka 4 = (one, true) by decide +kernel]
  refine ⟨_, _, rfl, _, _, _, H11.m1.rdc0, Get_hs (k := ka) ci (by omega) H11 fun h12 H12 => ?_⟩
  rw [av_lk.get, show ar.get ka 5 = (⟨#[]⟩, false) by decide +kernel]
  refine ⟨_, _, rfl, br_true rfl (br_true rfl (br_true rfl (br_true (by decide) (br_true rfl (br_true (by decide) (br_true rfl (br_true (by decide) (br_true rfl ?_))))))))⟩
  refine ⟨_, _, _, H12.m1.rdc0, Last_hs (k := ka) ci (by omega) H12 fun h13 H13 => ?_⟩
  rw [av_lk.last, show ar.last ka = 5 by decide +kernel]
  refine ⟨_, rfl, br_true rfl (Now_hs H13 ⟨_, rfl, br_true (by decide +kernel) (Versions_hs (by omega) H13 fun h14 H14 => ?_)⟩)⟩
  rw [av_lk.total, show ar.l.length = 2 by decide +kernel]
  refine ⟨_, rfl, law12_awake.J1_of ?_⟩
  have hfl : av.floor = 0 := by decide +kernel
  have hnow : av.now = 5 := by decide +kernel
  refine Prune_hs ci (by omega) H14 (fun hle => by rw [hfl] at hle; exact absurd hle (by decide)) fun _ h15 v3 g3 p3 H15 => ?_
  rw [hnow] at p3
  obtain ⟨lk3, eg3⟩ := av_lk.prune p3 (by rw [hnow]; decide)
  have p3f := p3.floor
  have p3n := p3.now
  rw [hnow] at p3n
  have eg3 : (g3 : Int) = 0 := eg3.trans (by decide +kernel)
  rw [eg3]
  have hb3 : v3.total < 2 ^ 39 := by have := p3.tot; omega
  refine ⟨_, rfl, _, _, _, H15.m1.rdc0, Get_hs (k := ka) lk3.ci (by omega) H15 fun h16 H16 => ?_⟩
  rw [lk3.get, show (ar.prune (if (5 : Int) < 4 then 5 else 4)).get ka 2 = (one, true) by decide +kernel]
  refine ⟨_, _, rfl, ?_⟩
  refine Prune_hs lk3.ci (by omega) H16 (fun hle => by rw [p3f] at hle; exact absurd hle (by decide)) fun _ h17 v4 g4 p4 H17 => ?_
  rw [p3n] at p4
  obtain ⟨lk4, eg4⟩ := lk3.prune p4 (by rw [p3n]; decide)
  have eg4 : (g4 : Int) = 2 := eg4.trans (by decide +kernel)
  rw [eg4]
  have hb4 : v4.total < 2 ^ 39 := by have := p4.tot; omega
  refine ⟨_, rfl, br_true rfl (br_true rfl (br_true (by decide) (br_true rfl (br_true rfl (Versions_hs (by omega) H17 fun h18 H18 => ?_)))))⟩
  rw [lk4.total, show ((ar.prune (if (5 : Int) < 4 then 5 else 4)).prune (if (5 : Int) < 9 then 5 else 9)).l.length = 0 by decide +kernel]
  refine ⟨_, rfl, br_true rfl ⟨_, _, _, H18.m1.rdc0, Last_hs (k := ka) lk4.ci (by omega) H18 fun h19 H19 => ?_⟩⟩
  rw [lk4.last, show ((ar.prune (if (5 : Int) < 4 then 5 else 4)).prune (if (5 : Int) < 9 then 5 else 9)).last ka = 0 by decide +kernel]
  exact ⟨_, rfl, k h19 H19.tl.tl⟩
/-! ### Calls -/
structure OpV where
  kind : Int
  cm : Cm
  k : Key
  at_ : Int
def opV (o : OpV) : List Value := [.int .i64 o.kind, .int .i64 o.cm.at_, .slice o.cm.a o.cm.n o.cm.c, .string o.k.t, .string o.k.a, .string o.k.e, .int .i64 o.at_]
theorem opV_len (o : OpV) : (opV o).length = 7 := rfl
def wsum (l : List OpV) : Nat := (l.map fun o => o.cm.n).sum
theorem wsum_snoc {l : List OpV} {i : Nat} (hi : i < l.length) : wsum (l.take (i + 1)) = wsum (l.take i) + l[i].cm.n := by
  unfold wsum; rw [List.take_succ_eq_append_getElem hi, List.map_append, List.sum_append]; simp
theorem wsum_take (l : List OpV) (i : Nat) : wsum (l.take i) ≤ wsum l := by
  unfold wsum
  conv => rhs; rw [← List.take_append_drop i l]
  rw [List.map_append, List.sum_append]; omega
theorem large_hs {a : OA} {n c : Nat} {l : List OpV} (g : Gv L a (l.flatMap opV)) (hn : l.length = n) (hmax : n < 2 ^ 50) (hw : ∀ o ∈ l, o.cm.n < 2 ^ 60) (H : Hs h L) (k : ∀ b, (b = false → n + wsum l ≤ 2000) → Q (.bool b) h) : SpecH PP F_law12_large [.slice a n c] h Q := by
  refine law12_large.door ?_
  have go : ∀ (m i : Nat), m + i = n → law12_large.L1 a n c ((n + wsum (l.take i) : Nat) : Int) (i : Int) (law12_large.K1 Q) h := by
    intro m
    induction m with
    | zero =>
      intro i hi
      refine law12_large.L1_of (br_false (decide_eq_false (by omega)) (law12_large.L1_X0 (k _ fun e => ?_)))
      have := of_decide_eq_false e
      rw [List.take_of_length_le (by omega)] at this; omega
    | succ m ih =>
      intro i hi
      refine law12_large.L1_of (br_true (decide_eq_true (by omega)) ((br_iff _ _ _).2 ⟨fun e => ?_, fun e => law12_large.L1_X0 (k _ fun e2 => ?_)⟩))
      · have e := of_decide_eq_true e
        refine idxf E_sl_haversacklaw12_Op (φ := opV) (l := l) (x := l[i]) (g _ H) opV_len (by decide) (by omega) (by omega) (by simp) fun t ht => ⟨_, _, _, by rw [add_add]; exact ht.2.2.1, ?_⟩
        have h1 := hw _ (List.getElem_mem (l := l) (n := i) (by omega))
        dsimp only
        rw [wrap_i64_z (by omega) (by omega), i1 (i := i) (by omega)]
        have := ih (i + 1) (by omega)
        rw [wsum_snoc (by omega)] at this
        rw [show ((n + wsum (l.take i) : Nat) : Int) + ((l[i].cm.n : Nat) : Int) = ((n + (wsum (l.take i) + l[i].cm.n) : Nat) : Int) by omega]
        exact this
      · have := of_decide_eq_false e
        have := of_decide_eq_false e2
        omega
  have := go n 0 (by omega)
  exact this
theorem put_total (v : CS) (a : Int) (ws : List Wr) : (v.put a ws).total ≤ v.total + ws.length := by
  have : ∀ (ws : List Wr) (v : CS), (ws.foldl (CS.put1 a) v).total ≤ v.total + ws.length := by
    intro ws
    induction ws with
    | nil => intro v; simp
    | cons w ws ih => intro v; have := ih (v.put1 a w); have := put1_total a v w; simp; omega
  exact this ws { v with now := a }
theorem put_fl (v : CS) (a : Int) (ws : List Wr) : (v.put a ws).floor = v.floor ∧ (v.put a ws).now = a := by
  have : ∀ (ws : List Wr) (v : CS), (ws.foldl (CS.put1 a) v).floor = v.floor ∧ (ws.foldl (CS.put1 a) v).now = v.now := by
    intro ws
    induction ws with
    | nil => intro v; exact ⟨rfl, rfl⟩
    | cons w ws ih => intro v; exact ih (v.put1 a w)
  exact this ws { v with now := a }
/-- A call's commit lies where its slice says. -/
structure OpOk (L : List Assn) (o : OpV) : Prop where
  cm : CmOk L o.cm
theorem built_hs {a : OA} {n c : Nat} {l : List OpV} (g : Gv L a (l.flatMap opV)) (hn : l.length = n) (hw : ∀ o ∈ l, CmOk L o.cm) (hs : n + wsum l ≤ 2000) (H : Hs h L) (k : ∀ h' s v r, Lk v r → v.floor = 0 → v.total ≤ 2000 → Hs h' (storeA s v :: L) → Q (.pointer (some ⟨s, 0, none⟩)) h') : SpecH PP F_law12_built [.slice a n c] h Q := by
  refine law12_built.door (CNew_hs H fun h1 s H1 => ⟨_, rfl, ?_⟩)
  have go : ∀ (m i : Nat) {v : CS} {r : RS} {h : Heap}, m + i = n → Lk v r → v.floor = 0 → v.total ≤ wsum (l.take i) → Hs h (storeA s v :: L) → law12_built.L1 a n c (some ⟨s, 0, none⟩) (i : Int) (law12_built.K1 Q) h := by
    intro m
    induction m with
    | zero =>
      intro i v r h hi lk hf ht H
      have := wsum_take l i
      exact law12_built.L1_of (br_false (decide_eq_false (by omega)) (law12_built.L1_X0 (k h s v r lk hf (by omega) H)))
    | succ m ih =>
      intro i v r h hi lk hf ht H
      have hil : i < l.length := by omega
      have ht2 := wsum_take l (i + 1)
      have hsn := wsum_snoc hil
      have J1 : ∀ {v : CS} {r : RS} {h : Heap}, Lk v r → v.floor = 0 → v.total ≤ wsum (l.take (i + 1)) → Hs h (storeA s v :: L) → law12_built.J1 a n c (some ⟨s, 0, none⟩) (i : Int) (law12_built.K1 Q) h := by
        intro v r h lk hf ht H
        refine law12_built.J1_of ?_
        dsimp only
        rw [i1 (i := i) (by omega)]
        exact ih (i + 1) (by omega) lk hf ht H
      have el : ∀ {R : Addr → Heap → Prop}, (∀ t, rdCells h t 0 (opV l[i]) → R t h) → hwp PP (Instr.indexAt T_sl_haversacklaw12_Op (.slice a n c) (.int .i64 (i : Int))) (fun u h1 => ∃ t, u = .pointer (some t) ∧ R t h1) h := fun K =>
        idxf E_sl_haversacklaw12_Op (φ := opV) (l := l) (x := l[i]) (g _ H.tl) opV_len (by decide) (by omega) (by omega) (by simp) K
      have hc := hw _ (List.getElem_mem hil)
      have hcn := hc.n
      refine law12_built.L1_of (br_true (decide_eq_true (by omega)) (el fun t ht => ⟨_, ht.1, (br_iff _ _ _).2 ⟨fun e => el fun t2 ht2 => ⟨_, _, _, _, ⟨by rw [add_add]; exact ht2.2.1, by rw [add_add]; exact ht2.2.2.1, trivial⟩, ?_⟩, fun e => J1 lk hf (by omega) H⟩⟩))
      refine Put_hs (x := l[i].cm) (by omega) hc H (fun _ h' H' => ⟨_, rfl, J1 lk hf (by omega) H'⟩) fun hlt h' H' => ⟨_, rfl, ?_⟩
      have := put_total v l[i].cm.at_ l[i].cm.ws
      exact J1 (lk.put hlt _) ((put_fl ..).1.trans hf) (by omega) H'
  have := go n 0 (by omega) Lk.new rfl (Nat.zero_le _) H1
  exact this
end Go.Proofs.Ytjkfngolgjbakaa

set_option maxRecDepth 20000
set_option linter.unusedVariables false
set_option linter.unusedSimpArgs false
namespace Go.Proofs.Ytjkfngolgjbakaa
open Go Go.HW
variable {h : Heap} {L : List Assn} {Q : Value → Heap → Prop}
theorem dump_len (g : Key → ByteArray) : ∀ (ks : List Key), (dumpOf g ks).length ≤ ks.length ∧ ∀ x ∈ dumpOf g ks, x.es.length ≤ ks.length := by
  have st : ∀ (D : List Arc) (k : Key) (d : ByteArray) (n : Nat), D.length ≤ n → (∀ x ∈ D, x.es.length ≤ n) → (dstep D k d).length ≤ n + 1 ∧ ∀ x ∈ dstep D k d, x.es.length ≤ n + 1 := by
    intro D k d n h1 h2
    unfold dstep
    rcases List.eq_nil_or_concat D with e | ⟨l, y, e⟩
    · subst e; simp
    · rw [List.concat_eq_append] at e
      subst e
      simp only [List.getLast?_concat, List.dropLast_concat]
      have hy := h2 y (by simp)
      rw [List.length_append, List.length_singleton] at h1
      split
      · refine ⟨by simp; omega, fun x hx => ?_⟩
        rcases List.mem_append.1 hx with hx | hx
        · have := h2 x (List.mem_append_left _ hx); omega
        · rw [List.mem_singleton.1 hx]; simp; omega
      · refine ⟨by simp; omega, fun x hx => ?_⟩
        rcases List.mem_append.1 hx with hx | hx
        · have := h2 x hx; omega
        · rw [List.mem_singleton.1 hx]; simp
  intro ks
  unfold dumpOf
  have : ∀ (ks : List Key) (D : List Arc) (n : Nat), D.length ≤ n → (∀ x ∈ D, x.es.length ≤ n) → (ks.foldl (fun D k => dstep D k (g k)) D).length ≤ n + ks.length ∧ ∀ x ∈ ks.foldl (fun D k => dstep D k (g k)) D, x.es.length ≤ n + ks.length := by
    intro ks
    induction ks with
    | nil => intro D n h1 h2; exact ⟨h1, h2⟩
    | cons k ks ih =>
      intro D n h1 h2
      obtain ⟨a, b⟩ := st D k (g k) n h1 h2
      have := ih (dstep D k (g k)) (n + 1) a b
      rw [List.foldl_cons, List.length_cons, show n + (ks.length + 1) = n + 1 + ks.length by omega]
      exact this
  have := this ks [] 0 (by simp) (by simp)
  rw [Nat.zero_add] at this; exact this
theorem copied_hs {x : Cm} (ok : CmOk L x) (hmax : x.n < 2 ^ 40) (H : Hs h L) (k : ∀ h' a c, Hs h' (own a x.n c T_api_Write 5 (x.ws.flatMap wrV) :: L) → Q (.agg (cmV ⟨x.at_, a, x.n, c, x.ws⟩).toArray) h') : SpecH PP F_law12_copied [.agg (cmV x).toArray] h Q := by
  refine law12_copied.door ?_
  dsimp only
  have H1 := (H.new (t := T_api_Commit) (cs := (cmV x).toArray) (xs := cmV x)).new (t := T_api_Commit) (cs := #[.int .i64 0, .slice none 0 0]) (xs := [.int .i64 0, .slice none 0 0])
  refine ⟨_, H1.m1.cell (off := 0) rfl, ?_⟩
  refine Hs.wrs (xs := [.int .i64 0, .slice none 0 0]) H1.new fun h4 H4 => ?_
  refine ⟨_, _, _, H4.cell (off := 1) rfl, _, _, _, H4.m2.cell (off := 1) rfl, ?_⟩
  have hn := ok.n
  have n0 : x.a = none → x.n = 0 := by
    intro e
    rcases Nat.eq_zero_or_pos x.n with q | q
    · exact q
    · have := ok.rd _ H
      obtain ⟨ad, had⟩ := this.some_of (by
        intro e2
        have := flat_len wrV_len x.ws
        rw [e2] at this; simp at this; omega)
      rw [e] at had; cases had
  refine Hs.app_sl (H4.own_nil T_api_Write 5) E_sl_api_Write (m := x.n) (ys := x.ws.flatMap wrV) (ok.rd.cons.cons.cons _ H4) (by rw [flat_len wrV_len, hn]) n0 (fun v hv => by
    obtain ⟨w, _, hw⟩ := List.mem_flatMap.1 hv
    simp [wrV] at hw; rcases hw with rfl | rfl | rfl | rfl | rfl <;> rfl) (fun h5 a' c' H5 => ⟨_, _, _, rfl, ?_⟩) (by omega) (by omega)
  rw [Nat.zero_add, List.nil_append] at H5
  rw [Nat.zero_add]
  refine H5.m1.sto (off := 1) (by simp) fun h6 H6 => ⟨_, _, _, _, H6.rdc0, ?_⟩
  refine H6.m2.wrs (fun h7 H7 => ⟨_, _, _, _, H7.rdc0, ?_⟩)
  exact k h7 a' c' (H7.sel 4 [2])
def spoilt : Wr := ⟨⟨⟨#[]⟩, ⟨#[]⟩, ⟨#[]⟩⟩, false, ⟨#[115, 112, 111, 105, 108, 116]⟩⟩
theorem step_hs {s r0 : Nat} {v : CS} {r : RS} {o : OpV} (lk : Lk v r) (hb : v.total + o.cm.n < 2 ^ 30) (ok : CmOk L o.cm) (H : Hs h (storeA s v :: refA r0 r :: L))
    (kk : ∀ h' v' r', Lk v' r' → v'.total ≤ v.total + o.cm.n → Hs h' (storeA s v' :: refA r0 r' :: L) → Q (.bool true) h') :
    SpecH PP F_law12_step [.pointer (some ⟨s, 0, none⟩), .pointer (some ⟨r0, 0, none⟩), .agg (opV o).toArray] h Q := by
  have ht := lk.total
  have hv := lk.ci
  have hr := lk.ri
  refine law12_step.door ?_
  dsimp only
  have H1 := H.new (t := T_haversacklaw12_Op) (cs := (opV o).toArray) (xs := opV o)
  generalize Array.size h = o5 at H1 ⊢
  have same : ∀ {h' : Heap}, Hs h' (storeA s v :: refA r0 r :: L) → Q (.bool true) h' := fun H => kk _ v r lk (by omega) H
  refine ⟨_, H1.cell (off := 0) rfl, (br_iff _ _ _).2 ⟨fun e => ?_, fun e1 => (br_iff _ _ _).2 ⟨fun e => ?_, fun e2 => (br_iff _ _ _).2 ⟨fun e => ?_, fun e3 => (br_iff _ _ _).2 ⟨fun e => ?_, fun e4 => (br_iff _ _ _).2 ⟨fun e => ?_, fun e5 => (br_iff _ _ _).2 ⟨fun e => ?_, fun e6 => ?_⟩⟩⟩⟩⟩⟩⟩
  · -- Put
    refine ⟨_, _, _, _, H1.rdo 1 rfl, ?_⟩
    refine copied_hs (x := o.cm) ok.cons.cons.cons (by omega) H1 fun h2 a c H2 => ⟨_, _, _, _, rfl, ?_⟩
    dsimp only
    refine Hs.wrs (xs := [.int .i64 0, .slice none 0 0]) H2.new fun h4 H4 => ⟨_, _, _, _, H4.rdc0, ?_⟩
    generalize Array.size h2 = c7 at H4 ⊢
    have hn := ok.n
    -- behind the store's Put: the copy is held against the call's own and spoilt
    have loop : ∀ {v' : CS} {e : Int}, (∀ h', Hs h' (refA r0 r :: storeA s v' :: pt o5 T_haversacklaw12_Op (opV o) :: L) → law12_step.K1 Q (.exit 1) (law12_step.X1 (some ⟨r0, 0, none⟩) ⟨o5, 0, none⟩ e) h') → ∀ {h : Heap}, Hs h (storeA s v' :: pt c7 T_api_Commit [.int .i64 o.cm.at_, .slice a o.cm.n c] :: own a o.cm.n c T_api_Write 5 (o.cm.ws.flatMap wrV) :: pt o5 T_haversacklaw12_Op (opV o) :: refA r0 r :: L) →
        law12_step.L1 (some ⟨r0, 0, none⟩) ⟨o5, 0, none⟩ ⟨c7, 0, none⟩ e 0 (law12_step.K1 Q) h := by
      intro v' e fin h H
      have go : ∀ (m i : Nat) (xs : List Wr) {h : Heap}, m + i = o.cm.n → xs.length = o.cm.n → (∀ j (hj : j < xs.length) (hj2 : j < o.cm.ws.length), i ≤ j → xs[j] = o.cm.ws[j]) → Hs h (own a o.cm.n c T_api_Write 5 (xs.flatMap wrV) :: pt c7 T_api_Commit [.int .i64 o.cm.at_, .slice a o.cm.n c] :: pt o5 T_haversacklaw12_Op (opV o) :: refA r0 r :: storeA s v' :: L) →
          law12_step.L1 (some ⟨r0, 0, none⟩) ⟨o5, 0, none⟩ ⟨c7, 0, none⟩ e (i : Int) (law12_step.K1 Q) h := by
        intro m
        induction m with
        | zero =>
          intro i xs h hi hl hx H
          exact law12_step.L1_of ⟨_, _, _, H.m1.cell (off := 1) rfl, br_false (decide_eq_false (by omega)) (fin h (H.sel 5 [3, 4, 2]))⟩
        | succ m ih =>
          intro i xs h hi hl hx H
          have he := hx i (by omega) (by omega) (Nat.le_refl _)
          refine law12_step.L1_of ⟨_, _, _, H.m1.cell (off := 1) rfl, br_true (decide_eq_true (by omega)) ⟨_, _, _, H.m1.cell (off := 1) rfl, ?_⟩⟩
          refine idxf E_sl_api_Write (φ := wrV) (l := xs) (x := xs[i]) H.rd wrV_len (by decide) (by omega) (by omega) (by simp) fun t1 ht1 => ⟨_, _, _, _, _, ht1, _, _, _, H.m2.cell (off := 2) rfl, ?_⟩
          refine idxf E_sl_api_Write (φ := wrV) (l := o.cm.ws) (x := o.cm.ws[i]) (ok.rd.cons.cons.cons.cons.cons _ H) wrV_len (by decide) (by omega) (by omega) (by simp) fun t2 ht2 => ⟨_, _, _, _, _, ht2, br_false (by rw [he]; simp) ⟨_, _, _, H.m1.cell (off := 1) rfl, ?_⟩⟩
          refine H.idx_wrf spoilt E_sl_api_Write (by omega) (by omega) wrV_len (by decide) (by intro x hx; simp [wrV] at hx; rcases hx with rfl | rfl | rfl | rfl | rfl <;> rfl) fun h' H' => ?_
          dsimp only
          rw [i1 (i := i) (by omega)]
          refine ih (i + 1) _ (by omega) (by simpa using hl) (fun j hj hj2 hij => ?_) H'
          rw [List.getElem_set_ne (by rw [Int.toNat_natCast]; omega)]
          exact hx j (by simpa using hj) hj2 (by omega)
      have := go o.cm.n 0 o.cm.ws (h := h) (by omega) hn (fun j hj hj2 _ => rfl) (H.sel 5 [2, 1, 3, 4, 0])
      exact this
    have okc : CmOk (pt c7 T_api_Commit [.int .i64 o.cm.at_, .slice a o.cm.n c] :: own a o.cm.n c T_api_Write 5 (o.cm.ws.flatMap wrV) :: pt o5 T_haversacklaw12_Op (opV o) :: refA r0 r :: L) ⟨o.cm.at_, a, o.cm.n, c, o.cm.ws⟩ := ⟨Gv.own.cons, hn, ok.lt⟩
    refine Put_hs (x := ⟨o.cm.at_, a, o.cm.n, c, o.cm.ws⟩) (by show v.total + o.cm.n < 2 ^ 40; omega) okc (H4.sel 5 [3, 0, 1, 2, 4]) (fun hle h5 H5 => ⟨_, rfl, loop (fun h6 H6 => ?_) H5⟩) fun hlt h5 H5 => ⟨_, rfl, loop (fun h6 H6 => ?_) H5⟩
    · refine law12_step.L1_X1 ⟨_, _, _, _, H6.m2.rdo 1 rfl, RPut_hs (x := o.cm) hr (by omega) ok.cons.cons H6 (fun _ h7 H7 => ⟨_, rfl, same (H7.sel 3 [1, 0])⟩) fun hlt => absurd hlt (by have := lk.now; have hle : o.cm.at_ ≤ v.now := hle; omega)⟩
    · have hlt : v.now < o.cm.at_ := hlt
      refine law12_step.L1_X1 ⟨_, _, _, _, H6.m2.rdo 1 rfl, RPut_hs (x := o.cm) hr (by omega) ok.cons.cons H6 (fun hle => absurd hle (by have := lk.now; omega)) fun _ h7 H7 => ⟨_, rfl, ?_⟩⟩
      have hpt := put_total v o.cm.at_ o.cm.ws
      exact kk h7 _ _ (lk.put hlt o.cm.ws) (by omega) (H7.sel 3 [1, 0])
  · -- Get
    refine ⟨_, _, _, H1.rdo 3 rfl, _, H1.cell (off := 6) rfl, Get_hs (k := o.k) hv (by omega) H1.m1 fun h2 H2 => ⟨_, _, rfl, _, _, _, H2.m1.rdo 3 rfl, _, H2.m1.cell (off := 6) rfl, ?_⟩⟩
    refine RGet_hs (k := o.k) hr (by omega) H2.m2 fun h3 H3 => ⟨_, _, rfl, ?_⟩
    rw [lk.get]
    refine br_true (decide_eq_true rfl) ?_
    rw [beq_self_eq_true]
    exact same (H3.sel 3 [1, 0])
  · -- List
    have J1 : ∀ {h : Heap} {a : OA} {c : Nat} {ks : List Key}, KeysOf (fun k => (v.get k o.at_).2 && (decide (k.t = o.k.t) && decide (k.a = o.k.a))) ks → ks.length ≤ v.total → Hs h (own a ks.length c T_string 1 (ks.map fun k => .string k.e) :: storeA s v :: pt o5 T_haversacklaw12_Op (opV o) :: refA r0 r :: L) →
        law12_step.J1 (some ⟨r0, 0, none⟩) ⟨o5, 0, none⟩ a ks.length c Q h := by
      intro h a c ks hk hl H
      have LI : ∀ {h' : Heap} {R : VP}, Hs h' (own a ks.length c T_string 1 (ks.map fun k => .string k.e) :: storeA s v :: pt o5 T_haversacklaw12_Op (opV o) :: refA r0 r :: L) → (∀ h'' a' n' c', (∀ {R : VP}, (∀ h3, R (.bool true) h3 = R (.bool true) h3) → Hs h'' (storeA s v :: refA r0 r :: L) → (R (.bool true) h'') → SpecH PP F_keep_Texts [.slice a ks.length c, .slice a' n' c'] h'' R) → Hs h'' (storeA s v :: refA r0 r :: L) → R (.slice a' n' c') h'') →
          SpecH PP F_ref12_Store_List [.pointer (some ⟨r0, 0, none⟩), bxA ⟨o.k.t, o.k.a⟩, .int .i64 o.at_] h' R := by
        intro h' R H K
        refine RList_hs (b := ⟨o.k.t, o.k.a⟩) hr (by omega) H.m3 fun h2 a2 c2 ks2 hk2 hl2 H2 => ?_
        have hfun : (fun k => (v.get k o.at_).2 && (decide (k.t = o.k.t) && decide (k.a = o.k.a))) = fun k => (r.get k o.at_).2 && (decide (k.t = o.k.t) && decide (k.a = o.k.a)) := by funext k; rw [lk.get]
        have e : ks = ks2 := hk.uniq (by rw [hfun]; exact hk2)
        subst e
        refine K h2 a2 ks.length c2 (fun _ _ hR => ?_) (H2.sel 5 [3, 1])
        have hm : (ks.map fun k => Value.string k.e) = (ks.map Key.e).map Value.string := by rw [List.map_map]; rfl
        refine KTexts_hs (l := ks.map Key.e) (L := own a2 ks.length c2 T_string 1 ((ks.map Key.e).map Value.string) :: refA r0 r :: own a ks.length c T_string 1 ((ks.map Key.e).map Value.string) :: storeA s v :: pt o5 T_haversacklaw12_Op (opV o) :: L) Gv.own.cons.cons Gv.own (by simp) (by omega) (by rw [hm] at H2; exact H2) hR
      refine law12_step.J1_of ⟨_, _, _, H.m2.rdo 3 rfl, ?_, ?_, trivial⟩
      · refine box_hs (x := o.k) H fun h2 H2 => ⟨_, _, rfl, _, H2.m2.cell (off := 6) rfl, LI H2 fun h3 a3 n3 c3 T H3 => ⟨_, _, _, rfl, T (fun _ => rfl) H3 ⟨_, rfl, same H3⟩⟩⟩
      · refine ⟨_, H.m2.cell (off := 6) rfl, box_hs (x := o.k) H fun h2 H2 => ⟨_, _, rfl, LI H2 fun h3 a3 n3 c3 T H3 => ⟨_, _, _, rfl, T (fun _ => rfl) H3 ⟨_, rfl, same H3⟩⟩⟩⟩
    refine ⟨_, _, _, H1.rdo 3 rfl, ?_, ?_, trivial⟩
    · refine box_hs (x := o.k) H1 fun h2 H2 => ⟨_, _, rfl, _, H2.cell (off := 6) rfl, CList_hs (b := ⟨o.k.t, o.k.a⟩) hv (by omega) H2.m1 fun h3 a c ks hk hl H3 => ⟨_, _, _, rfl, J1 hk hl H3⟩⟩
    · refine ⟨_, H1.cell (off := 6) rfl, box_hs (x := o.k) H1 fun h2 H2 => ⟨_, _, rfl, CList_hs (b := ⟨o.k.t, o.k.a⟩) hv (by omega) H2.m1 fun h3 a c ks hk hl H3 => ⟨_, _, _, rfl, J1 hk hl H3⟩⟩⟩
  · -- Last
    have E : ∀ {h' : Heap}, Hs h' (refA r0 r :: storeA s v :: pt o5 T_haversacklaw12_Op (opV o) :: L) → Q (.bool (v.last o.k == r.last o.k)) h' := by
      intro h' H
      rw [lk.last, beq_self_eq_true]
      exact same (H.sel 3 [1, 0])
    refine ⟨_, _, _, H1.rdo 3 rfl, ?_, ?_, trivial⟩
    · refine Last_hs (k := o.k) hv (by omega) H1.m1 fun h2 H2 => ⟨_, rfl, _, _, _, H2.m1.rdo 3 rfl, RLast_hs (k := o.k) (by omega) H2.m2 fun h3 H3 => ⟨_, rfl, E H3⟩⟩
    · refine ⟨_, _, _, H1.rdo 3 rfl, Last_hs (k := o.k) hv (by omega) H1.m1 fun h2 H2 => ⟨_, rfl, RLast_hs (k := o.k) (by omega) H2.m2 fun h3 H3 => ⟨_, rfl, E H3⟩⟩⟩
  · -- Prune
    have E : ∀ {h' : Heap} {R : VP}, Hs h' (pt o5 T_haversacklaw12_Op (opV o) :: storeA s v :: refA r0 r :: L) → (∀ h2 (g : Int), (∀ {R2 : VP}, (∀ h3, Q (.bool true) h3 → R2 (.int .i64 g) h3) → SpecH PP F_ref12_Store_Prune [.pointer (some ⟨r0, 0, none⟩), .int .i64 o.at_] h2 R2) → cellH h2 ⟨o5, 6, none⟩ = some (.int .i64 o.at_) → R (.int .i64 g) h2) →
        SpecH PP F_chain_Store_Prune [.pointer (some ⟨s, 0, none⟩), .int .i64 o.at_] h' R := by
      intro h' R H K
      have hfl := hv.floor
      refine Prune_hs hv (by omega) H.m1 (fun hle => K _ _ (fun {R2} hR => ?_) (H.cell (off := 6) rfl)) fun hlt h2 v' g p H2 => K h2 g (fun {R2} hR => ?_) (H2.m1.cell (off := 6) rfl)
      · exact RPrune_hs hr (by omega) H.m2 (fun _ => hR _ (same (H.sel 3 [1, 2]))) fun hlt => absurd hlt (by rw [← lk.floor]; omega)
      · obtain ⟨lk', eg⟩ := lk.prune p (by split <;> omega)
        refine RPrune_hs hr (by omega) H2.m2 (fun hle => absurd hle (by rw [← lk.floor]; omega)) fun _ h3 H3 => ?_
        have hg := hR h3
        rw [eg, lk.now] at hg
        refine hg (kk h3 v' _ lk' ?_ (by rw [lk.now]; exact H3.sel 3 [1, 0]))
        have := p.tot; omega
    refine ⟨_, H1.cell (off := 6) rfl, ?_, ?_, trivial⟩
    · refine E H1 fun h2 g P hc => ⟨_, rfl, _, hc, P fun h3 q => ⟨_, rfl, ?_⟩⟩
      rw [beq_self_eq_true]; exact q
    · refine ⟨_, H1.cell (off := 6) rfl, E H1 fun h2 g P hc => ⟨_, rfl, P fun h3 q => ⟨_, rfl, ?_⟩⟩⟩
      rw [beq_self_eq_true]; exact q
  · -- Dump
    refine ⟨_, H1.cell (off := 6) rfl, Dump_hs hv (by omega) H1.m1 fun h2 a c ks hk hl H2 => ⟨_, _, _, rfl, _, H2.m2.cell (off := 6) rfl, ?_⟩⟩
    refine RDump_hs hr (by omega) H2.m3 fun h3 a3 c3 ks3 hk3 hl3 H3 => ?_
    have hfun : (fun k => v.get k o.at_) = fun k => r.get k o.at_ := by funext k; rw [lk.get]
    have f1 : (fun k => (v.get k o.at_).1) = fun k => (r.get k o.at_).1 := by funext k; rw [lk.get]
    have f2 : (fun k => (v.get k o.at_).2) = fun k => (r.get k o.at_).2 := by funext k; rw [lk.get]
    rw [f2] at hk
    have e : ks = ks3 := hk.uniq hk3
    subst e
    rw [f1] at H3 ⊢
    have hd := dump_len (fun k => (r.get k o.at_).1) ks
    refine ⟨_, _, _, rfl, Same_hs (by omega) (fun x hx => by have := hd.2 x hx; omega) (H3.sel 5 [2, 0, 3, 4, 1]) fun h4 H4 => ⟨_, rfl, ?_⟩⟩
    exact same (H4.sel 5 [2, 4])
  · -- Now, Versions
    dsimp only [nilc]
    have cN : ∀ {h' : Heap} {M : List Assn}, Hs h' (refA r0 r :: M) → cellH h' ⟨r0, 1, none⟩ = some (.int .i64 r.now) := fun H => by obtain ⟨a, c, H⟩ := refA_open.1 H; exact H.cell (off := 1) rfl
    have cL : ∀ {h' : Heap} {M : List Assn}, Hs h' (refA r0 r :: M) → ∃ a c, cellH h' ⟨r0, 0, none⟩ = some (.slice a r.l.length c) := fun H => by obtain ⟨a, c, H⟩ := refA_open.1 H; exact ⟨a, c, H.cell (off := 0) rfl⟩
    have enow : (v.now == r.now) = true := by rw [lk.now]; exact beq_self_eq_true _
    have etot : (((v.total : Nat) : Int) == ((r.l.length : Nat) : Int)) = true := by rw [ht]; exact beq_self_eq_true _
    have V : ∀ {h' : Heap} {R : VP}, Hs h' (pt o5 T_haversacklaw12_Op (opV o) :: storeA s v :: refA r0 r :: L) → (∀ h'', Hs h'' (pt o5 T_haversacklaw12_Op (opV o) :: storeA s v :: refA r0 r :: L) → R (.int .i64 (v.total : Nat)) h'') → SpecH PP F_chain_Store_Versions [.pointer (some ⟨s, 0, none⟩)] h' R := fun H K =>
      Versions_hs (by omega) H.m1 fun h'' H'' => K h'' H''.m1
    have two : ∀ {h' : Heap}, Hs h' (pt o5 T_haversacklaw12_Op (opV o) :: storeA s v :: refA r0 r :: L) → Q (.bool (((v.total : Nat) : Int) == ((r.l.length : Nat) : Int))) h' := fun H => by rw [etot]; exact same H.tl
    refine ⟨Now_hs H1.m1 ⟨_, rfl, _, cN H1.m2, br_true enow ⟨V H1 fun h2 H2 => ?_, ?_, trivial⟩⟩, ⟨_, cN H1.m2, Now_hs H1.m1 ⟨_, rfl, br_true enow ⟨V H1 fun h2 H2 => ?_, ?_, trivial⟩⟩⟩, trivial⟩
    · obtain ⟨a, c, e⟩ := cL H2.m2; exact ⟨_, rfl, a, _, c, e, two H2⟩
    · obtain ⟨a, c, e⟩ := cL H1.m2; exact ⟨a, _, c, e, V H1 fun h2 H2 => ⟨_, rfl, two H2⟩⟩
    · obtain ⟨a, c, e⟩ := cL H2.m2; exact ⟨_, rfl, a, _, c, e, two H2⟩
    · obtain ⟨a, c, e⟩ := cL H1.m2; exact ⟨a, _, c, e, V H1 fun h2 H2 => ⟨_, rfl, two H2⟩⟩
theorem ChainRuns_spec {a : OA} {n c : Nat} {l : List OpV} (hr : Rd h a (l.flatMap opV)) (hn : l.length = n) (hmax : n < 2 ^ 50) (hw : ∀ o ∈ l, Rd h o.cm.a (o.cm.ws.flatMap wrV) ∧ o.cm.ws.length = o.cm.n ∧ o.cm.n < 2 ^ 60) (HQ : ∀ h', ExtB h.size h h' → Q (.bool true) h') :
    SpecH PP F_law12_ChainRuns [.slice a n c] h Q := by
  refine law12_ChainRuns.door ?_
  have H := Hs.start h
  have fin : ∀ {h' : Heap} {M : List Assn}, Hs h' (ro h :: M) → Q (.bool true) h' := fun H => HQ _ H.ro_below
  have g : Gv [ro h] a (l.flatMap opV) := Gv.ro hr
  have hok : ∀ o ∈ l, CmOk [ro h] o.cm := fun o ho => ⟨Gv.ro (hw o ho).1, (hw o ho).2.1, (hw o ho).2.2⟩
  refine large_hs g hn hmax (fun o ho => (hw o ho).2.2) H fun b hbig => ⟨_, rfl, (br_iff _ _ _).2 ⟨fun e => aw_hs H fun h1 H1 => ⟨_, rfl, fin H1⟩, fun e => ?_⟩⟩
  have hbig := hbig e
  refine CNew_hs H fun h1 s H1 => ⟨_, rfl, br_false rfl ?_⟩
  dsimp only
  have H2 := (H1.own_nil T_haversackref12_Version 6).new (t := T_haversackref12_Store) (cs := #[.slice none 0 0, .int .i64 0, .int .i64 0]) (xs := [.slice none 0 0, .int .i64 0, .int .i64 0])
  generalize Array.size h1 = r0 at H2 ⊢
  have H3 : Hs _ (storeA s .new :: refA r0 ⟨[], 0, 0⟩ :: [ro h]) := (refA_open.2 ⟨none, 0, H2⟩ : Hs _ (refA r0 ⟨[], 0, 0⟩ :: _)).m1
  have go : ∀ (m i : Nat) {v : CS} {r : RS} {h' : Heap}, m + i = n → Lk v r → v.total ≤ wsum (l.take i) → Hs h' (storeA s v :: refA r0 r :: [ro h]) → law12_ChainRuns.L1 a n c (some ⟨s, 0, none⟩) ⟨r0, 0, none⟩ (i : Int) (law12_ChainRuns.K1 Q) h' := by
    intro m
    induction m with
    | zero =>
      intro i v r h' hi lk ht H
      have hws := wsum_take l i
      refine law12_ChainRuns.L1_of (br_false (decide_eq_false (by omega)) (law12_ChainRuns.L1_X0 (aw_hs H fun h2 H2 => ⟨_, rfl, br_true rfl ?_⟩)))
      refine step_hs (o := ⟨0, ⟨0, none, 0, 0, []⟩, ⟨⟨#[]⟩, ⟨#[]⟩, ⟨#[]⟩⟩, 0⟩) lk (by show v.total + 0 < 2 ^ 30; omega) ⟨fun h H => Rd.nil _ _, rfl, (by decide : (0 : Nat) < 2 ^ 60)⟩ H2 fun h3 v3 r3 lk3 ht3 H3 => ⟨_, rfl, br_true rfl ?_⟩
      have ht3 : v3.total ≤ v.total + 0 := ht3
      obtain ⟨a3, c3, H4⟩ := refA_open.1 H3.m1
      refine ⟨_, H4.cell (off := 1) rfl, ?_⟩
      refine step_hs (o := ⟨6, ⟨0, none, 0, 0, []⟩, ⟨⟨#[]⟩, ⟨#[]⟩, ⟨#[]⟩⟩, r3.now⟩) lk3 (by show v3.total + 0 < 2 ^ 30; omega) ⟨fun h H => Rd.nil _ _, rfl, (by decide : (0 : Nat) < 2 ^ 60)⟩ H3 fun h5 v5 r5 lk5 ht5 H5 => ⟨_, rfl, fin H5.tl.tl⟩
    | succ m ih =>
      intro i v r h' hi lk ht H
      have hil : i < l.length := by omega
      have ht2 := wsum_take l (i + 1)
      have hsn := wsum_snoc hil
      refine law12_ChainRuns.L1_of (br_true (decide_eq_true (by omega)) ?_)
      refine idxf E_sl_haversacklaw12_Op (φ := opV) (l := l) (x := l[i]) (g _ H.tl.tl) opV_len (by decide) (by omega) (by omega) (by simp) fun t ht => ⟨_, _, _, _, _, _, _, _, _, ht, ?_⟩
      refine step_hs (o := l[i]) lk (by omega) (hok _ (List.getElem_mem _)) H fun h2 v' r' lk' ht' H2 => ⟨_, rfl, br_false rfl ?_⟩
      dsimp only
      rw [i1 (i := i) (by omega)]
      exact ih (i + 1) (by omega) lk' (by omega) H2
  have := go n 0 (by omega) Lk.new (Nat.zero_le _) H3
  exact this
end Go.Proofs.Ytjkfngolgjbakaa

set_option maxRecDepth 20000
set_option linter.unusedVariables false
set_option linter.unusedSimpArgs false
namespace Go.Proofs.Ytjkfngolgjbakaa
open Go Go.HW
variable {h : Heap} {L : List Assn} {Q : Value → Heap → Prop}
/-! ### Plain: what is put later -/
theorem tw_snoc {α : Type} {p : α → Bool} {x : α} (hx : p x = false) : ∀ {l : List α}, (l ++ [x]).takeWhile p = l.takeWhile p
  | [] => by rw [List.nil_append, List.takeWhile_cons_of_neg (by rw [hx]; simp)]; rfl
  | y :: l => by
    rw [List.cons_append]
    cases e : p y with
    | true => rw [List.takeWhile_cons_of_pos e, List.takeWhile_cons_of_pos e, tw_snoc hx]
    | false => rw [List.takeWhile_cons_of_neg (by rw [e]; simp), List.takeWhile_cons_of_neg (by rw [e]; simp)]
theorem put_before {vs : List Ver} {x : Ver} {t : Int} (ht : t < x.at_) : getV (putV vs x) t = getV vs t := by
  have hx : (fun v : Ver => decide (v.at_ ≤ t)) x = false := decide_eq_false (by omega)
  have : pick (putV vs x) t = pick vs t := by
    unfold pick putV
    rcases List.eq_nil_or_concat vs with e | ⟨l, y, e⟩
    · subst e; rw [List.getLast?_nil]; show (([] ++ [x] : List Ver).takeWhile fun v => decide (v.at_ ≤ t)).getLast? = _; rw [tw_snoc (p := fun v : Ver => decide (v.at_ ≤ t)) hx]
    · rw [List.concat_eq_append] at e
      subst e
      rw [List.getLast?_concat]
      simp only [List.dropLast_concat]
      split
      · rename_i q
        rw [tw_snoc (p := fun v : Ver => decide (v.at_ ≤ t)) hx, tw_snoc (p := fun v : Ver => decide (v.at_ ≤ t)) (decide_eq_false (by omega))]
      · rw [tw_snoc (p := fun v : Ver => decide (v.at_ ≤ t)) hx]
  unfold getV; rw [this]
theorem get_top {vs : List Ver} {t : Int} (h : ∀ x ∈ vs, x.at_ ≤ t) : pick vs t = vs.getLast? := by
  have : vs.takeWhile (fun v => decide (v.at_ ≤ t)) = vs := by
    induction vs with
    | nil => rfl
    | cons x vs ih => rw [List.takeWhile_cons_of_pos (p := fun v : Ver => decide (v.at_ ≤ t)) (decide_eq_true (h x (List.mem_cons_self ..))), ih fun y hy => h y (List.mem_cons_of_mem _ hy)]
  unfold pick; rw [this]
theorem vs_le {v : CS} (c : CI v) (k : Key) : ∀ x ∈ v.vs k, x.at_ ≤ v.now := fun x hx => by
  obtain ⟨y, hy, hxy⟩ := vs_mem hx; exact c.now y hy x hxy
theorem mx_of {t f : Int} (h : f ≤ t) : mx t f = t := by unfold mx; rw [if_neg (by omega)]
theorem puts_before {a t : Int} (k : Key) : ∀ (ws : List Wr) {v : CS}, mx t v.floor < a → (ws.foldl (CS.put1 a) v).get k t = v.get k t
  | [], _, _ => rfl
  | w :: ws, v, h => by
    rw [List.foldl_cons, puts_before k ws (v := v.put1 a w) h]
    unfold CS.get
    rw [put1_vs]
    split
    · exact put_before h
    · rfl
theorem put_keeps {v : CS} {a t : Int} (k : Key) (ws : List Wr) (h : mx t v.floor < a) : (v.put a ws).get k t = v.get k t := puts_before k ws (v := { v with now := a }) h
def accW (k : Key) (p : ByteArray × Bool) (w : Wr) : ByteArray × Bool := if w.k = k then (if w.there then w.data else ⟨#[]⟩, w.there) else p
theorem puts_now {a : Int} (k : Key) : ∀ (ws : List Wr) {v : CS}, CI v → v.now = a → 0 < a → (ws.foldl (CS.put1 a) v).get k a = ws.foldl (accW k) (v.get k a)
  | [], _, _, _, _ => rfl
  | w :: ws, v, c, hn, hp => by
    rw [List.foldl_cons, List.foldl_cons, puts_now k ws (c.put1 hn hp) hn hp]
    congr 1
    have hf := c.floor
    unfold CS.get accW
    rw [put1_vs, show mx a (v.put1 a w).floor = a from mx_of (by show v.floor ≤ a; omega), mx_of (by omega)]
    split
    · have hle : ∀ x ∈ putV (v.vs k) (wver a w), x.at_ ≤ a := fun x hx => by
        rcases putV_mem hx with rfl | hx
        · exact Int.le_refl _
        · have := vs_le c k x hx; omega
      unfold getV
      rw [get_top hle]
      have : (putV (v.vs k) (wver a w)).getLast? = some (wver a w) := by
        unfold putV
        split
        · split <;> simp
        · simp
      rw [this]
      unfold wver
      cases w.there <;> rfl
    · rfl
theorem put_now {v : CS} {a : Int} (k : Key) (ws : List Wr) (c : CI v) (h : v.now < a) : (v.put a ws).get k a = ws.foldl (accW k) (v.get k v.now) := by
  have hf := c.floor
  unfold CS.put
  rw [puts_now (a := a) k ws (v := { v with now := a }) (CI.now_up (v := v) c (by omega)) rfl (by have := hf.1; omega)]
  congr 1
  unfold CS.get
  rw [show mx a ({ v with now := a } : CS).floor = a from mx_of (by show v.floor ≤ a; omega), mx_of hf.2]
  show getV (v.vs k) a = getV (v.vs k) v.now
  unfold getV
  rw [get_top (vs_le c k), get_top (fun x hx => by have := vs_le c k x hx; omega)]
theorem ChainStays_spec {a : OA} {n c : Nat} {l : List OpV} {x : Cm} {k : Key} {t : Int} (hr : Rd h a (l.flatMap opV)) (hn : l.length = n) (hmax : n < 2 ^ 50) (hw : ∀ o ∈ l, Rd h o.cm.a (o.cm.ws.flatMap wrV) ∧ o.cm.ws.length = o.cm.n ∧ o.cm.n < 2 ^ 60)
    (hx : Rd h x.a (x.ws.flatMap wrV) ∧ x.ws.length = x.n ∧ x.n < 2 ^ 60) (HQ : ∀ h', ExtB h.size h h' → Q (.bool true) h') :
    SpecH PP F_law12_ChainStays [.slice a n c, .agg (cmV x).toArray, keyA k, .int .i64 t] h Q := by
  refine law12_ChainStays.door ?_
  dsimp only
  have H := ((Hs.start h).new (t := T_api_Commit) (cs := (cmV x).toArray) (xs := cmV x)).new (t := T_api_Key) (cs := (keyV k).toArray) (xs := keyV k)
  suffices main : ∀ {h2 : Heap} {c5 k6 : Nat}, Hs h2 [pt k6 T_api_Key (keyV k), pt c5 T_api_Commit (cmV x), ro h] → SpecH PP F_law12_large [.slice a n c] h2 (fun v h3 => ∃ (t24 : Bool), v = (.bool t24) ∧
      br t24 (law12_ChainStays.J1 a n c t ⟨c5, 0, none⟩ ⟨k6, 0, none⟩ true Q h3) (∃ (t27 : OA) (t27n t27c : Nat), cellH h3 (Addr.add ⟨c5, 0, none⟩ 1) = some (.slice t27 t27n t27c) ∧ law12_ChainStays.J1 a n c t ⟨c5, 0, none⟩ ⟨k6, 0, none⟩ (decide ((t27n : Int) > 2000)) Q h3)) from main H
  clear H
  intro h2 c5 k6 H
  have fin : ∀ {h' : Heap} {M : List Assn}, Hs h' (ro h :: M) → Q (.bool true) h' := fun H => HQ _ H.ro_below
  have g : Gv [pt k6 T_api_Key (keyV k), pt c5 T_api_Commit (cmV x), ro h] a (l.flatMap opV) := (Gv.ro hr).cons.cons
  have hok : ∀ o ∈ l, CmOk [pt k6 T_api_Key (keyV k), pt c5 T_api_Commit (cmV x), ro h] o.cm := fun o ho => CmOk.cons (CmOk.cons ⟨Gv.ro (hw o ho).1, (hw o ho).2.1, (hw o ho).2.2⟩)
  have hxk : ∀ {M : List Assn}, CmOk (ro h :: M) x := ⟨Gv.ro hx.1, hx.2.1, hx.2.2⟩
  have J1t : law12_ChainStays.J1 a n c t ⟨c5, 0, none⟩ ⟨k6, 0, none⟩ true Q h2 := law12_ChainStays.J1_of (br_true rfl (aw_hs H fun h1 H1 => ⟨_, rfl, fin H1.tl.tl⟩))
  refine large_hs g hn hmax (fun o ho => (hw o ho).2.2) H fun b hbig => ⟨_, rfl, (br_iff _ _ _).2 ⟨fun e => J1t, fun e => ⟨_, _, _, H.m1.cell (off := 1) rfl, ?_⟩⟩⟩
  have hbig := hbig e
  clear e
  cases e : decide ((x.n : Int) > 2000) with
  | true => exact J1t
  | false =>
  have hxn : x.n ≤ 2000 := by have := of_decide_eq_false e; omega
  clear e J1t
  refine law12_ChainStays.J1_of (br_false rfl ?_)
  refine built_hs g hn hok hbig H fun h3 s v r lk hf ht H3 => ⟨_, rfl, br_false rfl (Now_hs H3 ⟨_, rfl, _, _, _, H3.m1.rdc0, ?_⟩)⟩
  have ci := lk.ci
  have hfl := ci.floor
  refine Get_hs (k := k) ci (by omega) H3 fun h4 H4 => ⟨_, _, rfl, ?_⟩
  refine Dump_hs ci (by omega) H4 fun h5 da dc ks hk hl H5 => ⟨_, _, _, rfl, _, _, _, H5.m2.rdc0, ?_⟩
  have hd := dump_len (fun k => (v.get k t).1) ks
  refine Get_hs (k := k) ci (by omega) (H5.sel 4 [1, 0, 2, 3]) fun h6 H6 => ⟨_, _, rfl, _, _, _, _, H6.m3.rdc0, ?_⟩
  have H6 : Hs h6 (storeA s v :: arcsA da dc (dumpOf (fun k => (v.get k t).1) ks) :: pt k6 T_api_Key (keyV k) :: pt c5 T_api_Commit (cmV x) :: [ro h]) := H6
  have same : ∀ {v' : CS} {h' : Heap} {R : VP}, (∀ k, v'.get k t = v.get k t) → CI v' → v'.total < 2 ^ 39 → Hs h' (storeA s v' :: arcsA da dc (dumpOf (fun k => (v.get k t).1) ks) :: pt k6 T_api_Key (keyV k) :: pt c5 T_api_Commit (cmV x) :: [ro h]) →
      (∀ h'' a' c', (∀ {R2 : VP}, (∀ h3, Hs h3 (storeA s v' :: pt k6 T_api_Key (keyV k) :: pt c5 T_api_Commit (cmV x) :: [ro h]) → R2 (.bool true) h3) → SpecH PP F_ref12_Same [.slice a' (dumpOf (fun k => (v.get k t).1) ks).length c', .slice da (dumpOf (fun k => (v.get k t).1) ks).length dc] h'' R2) → R (.slice a' (dumpOf (fun k => (v.get k t).1) ks).length c') h'') →
      SpecH PP F_chain_Store_Dump [.pointer (some ⟨s, 0, none⟩), .int .i64 t] h' R := by
    intro v' h' R hg cv' htv H K
    refine Dump_hs cv' htv H fun h7 a7 c7 ks7 hk7 hl7 H7 => ?_
    have hfg : (fun k => v'.get k t) = fun k => v.get k t := funext hg
    have f1 : (fun k => (v'.get k t).1) = fun k => (v.get k t).1 := by funext k; rw [hg]
    have f2 : (fun k => (v'.get k t).2) = fun k => (v.get k t).2 := by funext k; rw [hg]
    rw [f2] at hk7
    have e : ks7 = ks := hk7.uniq hk
    subst e
    rw [f1] at H7 ⊢
    refine K h7 a7 c7 fun {R2} hR => Same_hs (by omega) (fun x hx => by have := hd.2 x hx; omega) (H7.sel 5 [0, 2, 1, 3, 4]) fun h8 H8 => hR h8 (H8.sel 5 [2, 3, 4])
  refine Put_hs (x := x) (by omega) hxk.cons.cons.cons H6 (fun hle h7 H7 => ⟨_, rfl, br_true rfl ?_⟩) fun hlt h7 H7 => ⟨_, rfl, br_false rfl ⟨_, H7.m3.cell (off := 0) rfl, br_false (decide_eq_false (by omega)) ?_⟩⟩
  · refine aw_hs H7 fun h8 H8 => ⟨_, rfl, br_true rfl (br_true rfl ⟨_, H8.m3.cell (off := 0) rfl, br_true (decide_eq_true hle) (Now_hs H8 ⟨_, rfl, br_true (beq_self_eq_true _) ?_⟩)⟩)⟩
    exact same (fun _ => rfl) ci (by omega) H8 fun h9 a9 c9 S => ⟨_, _, _, rfl, S fun h10 H10 => ⟨_, rfl, fin H10.tl.tl.tl⟩⟩
  · -- a new state
    have hpt := put_total v x.at_ x.ws
    have hxw := hx.2.1
    have lk' := lk.put hlt x.ws
    have ci' := lk'.ci
    obtain ⟨pf, pn⟩ := put_fl v x.at_ x.ws
    have ln : ∀ {h' : Heap}, Hs h' (storeA s (v.put x.at_ x.ws) :: pt k6 T_api_Key (keyV k) :: pt c5 T_api_Commit (cmV x) :: [ro h]) → law12_ChainStays.J4 ⟨c5, 0, none⟩ ⟨k6, 0, none⟩ (some ⟨s, 0, none⟩) (v.get k v.now).1 (v.get k v.now).2 Q h' := by
      intro h' H
      refine law12_ChainStays.J4_of ?_
      have go : ∀ (m i : Nat) (o : ByteArray) (w : Bool) {hh : Heap}, m + i = x.n → (x.ws.drop i).foldl (accW k) (o, w) = (v.put x.at_ x.ws).get k x.at_ → Hs hh (storeA s (v.put x.at_ x.ws) :: pt k6 T_api_Key (keyV k) :: pt c5 T_api_Commit (cmV x) :: [ro h]) → law12_ChainStays.L1 ⟨c5, 0, none⟩ ⟨k6, 0, none⟩ (some ⟨s, 0, none⟩) o w (i : Int) (law12_ChainStays.K4 Q) hh := by
        intro m
        induction m with
        | zero =>
          intro i o w hh hi ha H
          rw [List.drop_of_length_le (by omega), List.foldl_nil] at ha
          refine law12_ChainStays.L1_of ⟨_, _, _, H.m2.cell (off := 1) rfl, br_false (decide_eq_false (by omega)) (law12_ChainStays.L1_X0 ⟨_, _, _, H.m1.rdc0, _, H.m2.cell (off := 0) rfl, ?_⟩)⟩
          refine Get_hs (k := k) ci' (by omega) H fun h8 H8 => ?_
          rw [← ha]
          refine ⟨_, _, rfl, aw_hs H8 fun h9 H9 => ⟨_, rfl, br_true rfl (br_true (decide_eq_true rfl) ?_)⟩⟩
          rw [beq_self_eq_true]
          exact fin H9.tl.tl.tl
        | succ m ih =>
          intro i o w hh hi ha H
          rw [List.drop_eq_getElem_cons (by omega), List.foldl_cons] at ha
          refine law12_ChainStays.L1_of ⟨_, _, _, H.m2.cell (off := 1) rfl, br_true (decide_eq_true (by omega)) ⟨_, _, _, H.m2.cell (off := 1) rfl, ?_⟩⟩
          refine idxf E_sl_api_Write (φ := wrV) (l := x.ws) (x := x.ws[i]) (hxk.rd.cons.cons.cons _ H) wrV_len (by decide) (by omega) (by omega) (by simp) fun t1 ht1 => ⟨_, _, _, _, _, ht1, ?_⟩
          generalize x.ws[i] = y at ha ⊢
          dsimp only
          refine Hs.wrs (b := Array.size hh) (xs := [.string ⟨#[]⟩, .string ⟨#[]⟩, .string ⟨#[]⟩, .bool false, .string ⟨#[]⟩]) H.new (fun h8 H8 => ⟨_, _, _, H8.rdo 0 rfl, _, _, _, H8.m2.rdc0, ?_⟩)
          rw [key_dec]
          have J5 : ∀ {o : ByteArray} {w : Bool}, (x.ws.drop (i + 1)).foldl (accW k) (o, w) = (v.put x.at_ x.ws).get k x.at_ → law12_ChainStays.J5 ⟨c5, 0, none⟩ ⟨k6, 0, none⟩ (some ⟨s, 0, none⟩) o w (i : Int) (law12_ChainStays.K4 Q) h8 := by
            intro o w ha
            refine law12_ChainStays.J5_of ?_
            dsimp only
            rw [i1 (i := i) (by omega)]
            exact ih (i + 1) o w (by omega) ha H8.tl
          refine (br_iff _ _ _).2 ⟨fun e => ⟨_, H8.cell (off := 3) rfl, _, H8.cell (off := 3) rfl, (br_iff _ _ _).2 ⟨fun e2 => ⟨_, H8.cell (off := 4) rfl, J5 ?_⟩, fun e2 => J5 ?_⟩⟩, fun e => J5 ?_⟩
          · rw [← ha]; unfold accW; rw [if_pos (of_decide_eq_true e), if_pos e2, e2]
          · rw [← ha]; unfold accW; rw [if_pos (of_decide_eq_true e), if_neg (by rw [e2]; simp)]
          · rw [← ha]; unfold accW; rw [if_neg (of_decide_eq_false e)]
      have := go x.n 0 (v.get k v.now).1 (v.get k v.now).2 (by omega) (put_now k x.ws ci hlt).symm H
      exact this
    have J2 : ∀ {h' : Heap}, Hs h' (storeA s (v.put x.at_ x.ws) :: arcsA da dc (dumpOf (fun k => (v.get k t).1) ks) :: pt k6 T_api_Key (keyV k) :: pt c5 T_api_Commit (cmV x) :: [ro h]) → law12_ChainStays.J2 t ⟨c5, 0, none⟩ ⟨k6, 0, none⟩ (some ⟨s, 0, none⟩) (v.get k t).1 (v.get k t).2 da (dumpOf (fun k => (v.get k t).1) ks).length dc (v.get k v.now).1 (v.get k v.now).2 false Q h' := by
      intro h' H
      refine law12_ChainStays.J2_of (br_false rfl ⟨_, H.m3.cell (off := 0) rfl, (br_iff _ _ _).2 ⟨fun e => ?_, fun e => ln (H.sel 4 [0, 2, 3])⟩⟩)
      have e := of_decide_eq_true e
      have hmx : mx t v.floor < x.at_ := by unfold mx; split <;> omega
      refine ⟨_, _, _, H.m2.rdc0, Get_hs (k := k) ci' (by omega) H fun h8 H8 => ?_⟩
      rw [put_keeps k x.ws hmx]
      refine ⟨_, _, rfl, br_false (by simp) (br_false (by simp) ?_)⟩
      refine same (fun k => put_keeps k x.ws hmx) ci' (by omega) H8 fun h9 a9 c9 S => ⟨_, _, _, rfl, S fun h10 H10 => ⟨_, rfl, ?_⟩⟩
      exact law12_ChainStays.J3_of (br_false rfl (ln H10))
    refine ⟨Now_hs H7 ⟨_, rfl, _, H7.m3.cell (off := 0) rfl, ?_⟩, ⟨_, H7.m3.cell (off := 0) rfl, Now_hs H7 ⟨_, rfl, ?_⟩⟩, trivial⟩
    · dsimp only; rw [pn, bne_self_eq_false]; exact J2 H7
    · dsimp only; rw [pn, bne_self_eq_false]; exact J2 H7
end Go.Proofs.Ytjkfngolgjbakaa

set_option maxRecDepth 20000
set_option linter.unusedVariables false
set_option linter.unusedSimpArgs false
namespace Go.Proofs.Ytjkfngolgjbakaa
open Go Go.HW
variable {h : Heap} {L : List Assn} {Q : Value → Heap → Prop}
theorem tw_drop {α : Type} {p : α → Bool} : ∀ {l : List α} {n : Nat}, n ≤ (l.takeWhile p).length → (l.drop n).takeWhile p = (l.takeWhile p).drop n
  | [], n, _ => by simp
  | x :: l, 0, _ => by simp
  | x :: l, n + 1, h => by
    cases e : p x with
    | true =>
      rw [List.takeWhile_cons_of_pos e] at h ⊢
      rw [List.drop_succ_cons, List.drop_succ_cons]
      exact tw_drop (by simpa using h)
    | false => rw [List.takeWhile_cons_of_neg (by rw [e]; simp)] at h; simp at h
theorem tw_le {vs : List Ver} {f t : Int} (h : f ≤ t) : cnt vs f ≤ cnt vs t := by
  unfold cnt
  induction vs with
  | nil => exact Nat.le_refl _
  | cons x vs ih =>
    by_cases e : x.at_ ≤ f
    · rw [List.takeWhile_cons_of_pos (by simpa using e), List.takeWhile_cons_of_pos (by simpa using (by omega : x.at_ ≤ t))]
      simp only [List.length_cons]; omega
    · rw [List.takeWhile_cons_of_neg (by simpa using e)]; simp
/-- What goes changes no state at its time or later. -/
theorem pr_keeps {vs : List Ver} {f t : Int} (h : f ≤ t) : getV (prV f vs) t = getV vs t := by
  have hle := tw_le (vs := vs) h
  have hp : prn f vs ≤ cnt vs f := by unfold prn; split; split <;> omega; exact Nat.le_refl _
  have hd : (prV f vs).takeWhile (fun v => decide (v.at_ ≤ t)) = (vs.takeWhile fun v => decide (v.at_ ≤ t)).drop (prn f vs) := by
    unfold prV; exact tw_drop (by show prn f vs ≤ cnt vs t; omega)
  rcases Nat.lt_or_ge (prn f vs) (cnt vs t) with q | q
  · have : pick (prV f vs) t = pick vs t := by
      unfold pick; rw [hd, List.getLast?_drop, if_neg (by show ¬ cnt vs t ≤ prn f vs; omega)]
    unfold getV; rw [this]
  · have hc : cnt vs f = cnt vs t := by omega
    have hz : (prV f vs).takeWhile (fun v => decide (v.at_ ≤ t)) = [] := by rw [hd]; exact List.drop_eq_nil_of_le q
    have h1 : pick (prV f vs) t = none := by unfold pick; rw [hz]; rfl
    have h2 : getV (prV f vs) t = (⟨#[]⟩, false) := by unfold getV; rw [h1]
    rw [h2]
    rcases Nat.eq_zero_or_pos (cnt vs t) with z | z
    · rw [getV_none z]
    · rw [getV_some z]
      have hpk := pick_some (vs := vs) (t := f) (by omega)
      have hprn : prn f vs = if (vs[cnt vs f - 1]'(by have := cnt_le vs f; omega)).there then cnt vs f - 1 else cnt vs f := by unfold prn; rw [hpk]
      have e : (vs[cnt vs t - 1]'(by have := cnt_le vs t; omega)).there = false := by
        cases w : (vs[cnt vs t - 1]'(by have := cnt_le vs t; omega)).there with
        | false => rfl
        | true =>
          have w2 : (vs[cnt vs f - 1]'(by have := cnt_le vs f; omega)).there = true := by simp only [hc]; exact w
          rw [if_pos w2] at hprn; omega
      simp only [e]; rfl
theorem prune_twice (r : RS) (f : Int) : (r.prune f).prune f = r.prune f := by
  unfold RS.prune
  simp only
  congr 1
  rw [List.filter_eq_self]
  intro x hx
  obtain ⟨hx1, hx2⟩ := List.mem_filter.1 hx
  unfold keepB at *
  rw [Bool.or_eq_true] at *
  refine hx2.imp id fun e => ?_
  rw [Bool.and_eq_true] at *
  refine ⟨newestB_iff.2 ⟨(newestB_iff.1 e.1).1, fun y hy => (newestB_iff.1 e.1).2 y (List.mem_filter.1 hy).1⟩, e.2⟩
theorem rprune_get {r : RS} {k : Key} (c : RI r) {f t : Int} (h0 : r.floor ≤ f) : (r.prune f).get k t = r.get k (mx t f) := by
  unfold RS.get
  rw [rprune_vs c]
  show getV (prV f (r.vs k)) (mx t f) = getV (r.vs k) (mx (mx t f) r.floor)
  have hf : f ≤ mx t f := by unfold mx; split <;> omega
  rw [pr_keeps hf, show mx (mx t f) r.floor = mx t f from mx_of (by omega)]
theorem ChainPrunes_spec {a : OA} {n c : Nat} {l : List OpV} {p t : Int} (hr : Rd h a (l.flatMap opV)) (hn : l.length = n) (hmax : n < 2 ^ 50) (hw : ∀ o ∈ l, Rd h o.cm.a (o.cm.ws.flatMap wrV) ∧ o.cm.ws.length = o.cm.n ∧ o.cm.n < 2 ^ 60)
    (HQ : ∀ h', ExtB h.size h h' → Q (.bool true) h') : SpecH PP F_law12_ChainPrunes [.slice a n c, .int .i64 p, .int .i64 t] h Q := by
  refine law12_ChainPrunes.door ?_
  have H := Hs.start h
  have fin : ∀ {h' : Heap} {M : List Assn}, Hs h' (ro h :: M) → Q (.bool true) h' := fun H => HQ _ H.ro_below
  have g : Gv [ro h] a (l.flatMap opV) := Gv.ro hr
  have hok : ∀ o ∈ l, CmOk [ro h] o.cm := fun o ho => ⟨Gv.ro (hw o ho).1, (hw o ho).2.1, (hw o ho).2.2⟩
  refine large_hs g hn hmax (fun o ho => (hw o ho).2.2) H fun b hbig => ⟨_, rfl, (br_iff _ _ _).2 ⟨fun e => aw_hs H fun h1 H1 => ⟨_, rfl, fin H1⟩, fun e => ?_⟩⟩
  have hbig := hbig e
  refine built_hs g hn hok hbig H fun h3 s v r lk hf ht H3 => ⟨_, rfl, br_false rfl (Now_hs H3 ⟨_, rfl, ?_⟩)⟩
  have ci := lk.ci
  have hfl := ci.floor
  dsimp only
  refine Versions_hs (by omega) H3 fun h4 H4 => ⟨_, rfl, ?_⟩
  -- the floor
  generalize hF : (if (if v.now < p then v.now else p) > 0 then (if v.now < p then v.now else p) else 0) = F
  have hF0 : 0 ≤ F ∧ F ≤ v.now := by rw [← hF]; split <;> (try split) <;> (try split at *) <;> omega
  have eT : (if F > t then F else t) = mx t F := rfl
  rw [eT]
  refine Dump_hs ci (by omega) H4 fun h5 da dc ks hk hl H5 => ⟨_, _, _, rfl, ?_⟩
  have hd := dump_len (fun k => (v.get k (mx t F)).1) ks
  -- behind both prunings
  have rest : ∀ {v' : CS} {r' : RS} {gn : Nat} {hh : Heap}, Lk v' r' → v'.now = v.now → (∀ k, v'.get k t = v.get k (mx t F)) → v'.total + gn = v.total → Hs hh (storeA s v' :: arcsA da dc (dumpOf (fun k => (v.get k (mx t F)).1) ks) :: [ro h]) →
      SpecH PP F_law12_awake [] hh (fun v_8 h9 => ∃ (t38 : Bool), v_8 = (.bool t38) ∧ br t38 (let t41 : Bool := decide (((gn : Nat) : Int) ≥ 0); br t41 (let t45 : Bool := ((0 : Int) == 0); br t45 (SpecH PP F_chain_Store_Versions [.pointer (some ⟨s, 0, none⟩)] h9 (fun v_9 h10 => ∃ (t49 : Int), v_9 = (.int .i64 t49) ∧
        let t52 : Int := IntKind.i64.wrap (((v.total : Nat) : Int) - ((gn : Nat) : Int)); let t53 : Bool := (t49 == t52)
        br t53 (SpecH PP F_chain_Store_Dump [.pointer (some ⟨s, 0, none⟩), .int .i64 t] h10 (fun v_10 h11 => ∃ (t58 : OA) (t58n t58c : Nat), v_10 = (.slice t58 t58n t58c) ∧
          SpecH PP F_ref12_Same [.slice t58 t58n t58c, .slice da (dumpOf (fun k => (v.get k (mx t F)).1) ks).length dc] h11 (fun v_11 h12 => ∃ (t60 : Bool), v_11 = (.bool t60) ∧
            br t60 (SpecH PP F_chain_Store_Now [.pointer (some ⟨s, 0, none⟩)] h12 (fun v_12 h13 => ∃ (t64 : Int), v_12 = (.int .i64 t64) ∧ let t66 : Bool := decide (t64 ≥ F); Q (.bool t66) h13)) (Q (.bool false) h12)))) (Q (.bool false) h10))) (Q (.bool false) h9)) (Q (.bool false) h9)) (Q (.bool false) h9)) := by
    intro v' r' gn hh lk' hnow hg htot H
    refine aw_hs H fun h9 H9 => ⟨_, rfl, br_true rfl (br_true (decide_eq_true (by omega)) (br_true rfl ?_))⟩
    refine Versions_hs (by omega) H9 fun h10 H10 => ⟨_, rfl, br_true ?_ ?_⟩
    · rw [wrap_i64_z (by omega) (by omega)]; exact beq_iff_eq.2 (by omega)
    refine Dump_hs lk'.ci (by omega) H10 fun h11 a11 c11 ks11 hk11 hl11 H11 => ?_
    have f1 : (fun k => (v'.get k t).1) = fun k => (v.get k (mx t F)).1 := by funext k; rw [hg]
    have f2 : (fun k => (v'.get k t).2) = fun k => (v.get k (mx t F)).2 := by funext k; rw [hg]
    rw [f2] at hk11
    have e : ks11 = ks := hk11.uniq hk
    subst e
    rw [f1] at H11 ⊢
    refine ⟨_, _, _, rfl, Same_hs (by omega) (fun x hx => by have := hd.2 x hx; omega) (H11.sel 3 [0, 2, 1]) fun h12 H12 => ⟨_, rfl, br_true rfl (Now_hs H12.m2 ⟨_, rfl, ?_⟩)⟩⟩
    have : decide (v'.now ≥ F) = true := decide_eq_true (by omega)
    dsimp only
    rw [this]
    exact fin H12.tl.tl.tl
  have H5' := H5.m1
  rcases Int.lt_or_le 0 p with hp | hp
  · -- pruned
    have hFe : F = (if v.now < p then v.now else p) := by rw [← hF]; split <;> split at * <;> omega
    refine Prune_hs ci (by omega) H5' (fun hle => absurd hle (by omega)) fun _ h6 v1 g1 p1 H6 => ⟨_, rfl, ?_⟩
    rw [← hFe] at p1
    obtain ⟨lk1, eg1⟩ := lk.prune p1 hF0
    have n1 := p1.now
    have f1 := p1.floor
    have t1 := p1.tot
    have hg1 : ∀ k, v1.get k t = v.get k (mx t F) := fun k => by rw [lk1.get, rprune_get lk.ri (by rw [← lk.floor]; omega), lk.get]
    refine Prune_hs lk1.ci (by omega) H6 (fun hle => ⟨_, rfl, rest lk1 n1 hg1 t1 H6⟩) fun hlt h7 v2 g2 p2 H7 => ⟨_, rfl, ?_⟩
    have hFe2 : (if v1.now < p then v1.now else p) = F := by rw [n1]; exact hFe.symm
    rw [hFe2] at p2
    obtain ⟨lk2, eg2⟩ := lk1.prune p2 (by rw [n1]; exact hF0)
    rw [prune_twice] at lk2 eg2
    have g20 : g2 = 0 := by omega
    subst g20
    have t2 := p2.tot
    have n2 := p2.now
    exact rest lk2 (by omega) (fun k => by rw [lk2.get, ← lk1.get, hg1]) (by omega) H7
  · -- nothing goes
    have hFe : F = 0 := by rw [← hF]; split <;> (try split at *) <;> omega
    subst hFe
    refine Prune_hs ci (by omega) H5' (fun hle => ⟨_, rfl, ?_⟩) fun hlt => absurd hlt (by omega)
    refine Prune_hs ci (by omega) H5' (fun hle => ⟨_, rfl, ?_⟩) fun hlt => absurd hlt (by omega)
    have hg : ∀ k, v.get k t = v.get k (mx t 0) := fun k => by
      unfold CS.get
      rw [hf]
      have : mx (mx t 0) 0 = mx t 0 := by unfold mx; split <;> (try split) <;> omega
      rw [this]
    have := rest (gn := 0) lk rfl hg (by omega) H5'
    exact this
end Go.Proofs.Ytjkfngolgjbakaa

set_option maxRecDepth 20000
set_option linter.unusedVariables false
set_option linter.unusedSimpArgs false
namespace Go.Proofs.Ytjkfngolgjbakaa
open Go Go.HW
variable {h : Heap} {L : List Assn} {Q : Value → Heap → Prop}
def ekey (x : Arc) (e : Ent) : Key := ⟨x.t, x.n, e.n⟩
def flatD (D : List Arc) : List (Key × ByteArray) := D.flatMap fun x => x.es.map fun e => (ekey x e, e.d)
def blt (x y : Arc) : Prop := strLt x.t y.t = true ∨ (x.t = y.t ∧ strLt x.n y.n = true)
theorem blt_trans {x y z : Arc} (h1 : blt x y) (h2 : blt y z) : blt x z := by
  unfold blt at *
  rcases h1 with h1 | ⟨h1, h1'⟩ <;> rcases h2 with h2 | ⟨h2, h2'⟩
  · exact .inl (sl_trans h1 h2)
  · exact .inl (h2 ▸ h1)
  · exact .inl (h1 ▸ h2)
  · exact .inr ⟨h1.trans h2, sl_trans h1' h2'⟩
theorem blt_ne {x y : Arc} (h : blt x y) : ¬ (x.t = y.t ∧ x.n = y.n) := by
  rintro ⟨e1, e2⟩
  unfold blt at h
  rcases h with h | ⟨_, h⟩
  · rw [e1, sl_irrefl] at h; cases h
  · rw [e2, sl_irrefl] at h; cases h
structure DI (g : Key → ByteArray) (ks : List Key) (D : List Arc) : Prop where
  flat : flatD D = ks.map fun k => (k, g k)
  ne : ∀ x ∈ D, x.es ≠ []
  rise : D.Pairwise blt
  last : ∀ D0 x, D = D0 ++ [x] → ∃ k0 ∈ ks, k0.t = x.t ∧ k0.a = x.n
theorem flat_app (D E : List Arc) : flatD (D ++ E) = flatD D ++ flatD E := by unfold flatD; rw [List.flatMap_append]
theorem flat_one (x : Arc) : flatD [x] = x.es.map fun e => (ekey x e, e.d) := by unfold flatD; simp
theorem blt_of {k0 k : Key} {x : Arc} {es : List Ent} (h : klt k0 k = true) (e1 : k0.t = x.t) (e2 : k0.a = x.n) (hne : ¬ (x.t = k.t ∧ x.n = k.a)) : blt x ⟨k.t, k.a, es⟩ := by
  unfold klt at h
  unfold blt
  rw [e1, e2] at h
  by_cases q : x.t = k.t
  · rw [if_neg (by simpa using q)] at h
    rw [if_pos (fun z => hne ⟨q, z⟩)] at h
    exact .inr ⟨q, h⟩
  · rw [if_pos q] at h; exact .inl h
theorem DI.step {g : Key → ByteArray} {ks : List Key} {D : List Arc} {k : Key} (d : DI g ks D) (hr : ∀ k0 ∈ ks, klt k0 k = true) : DI g (ks ++ [k]) (dstep D k (g k)) := by
  unfold dstep
  rcases List.eq_nil_or_concat D with e | ⟨D0, x, e⟩
  · subst e
    have : ks = [] := by
      have := d.flat
      cases ks with
      | nil => rfl
      | cons => cases this
    subst this
    exact ⟨rfl, by simp, List.pairwise_singleton .., fun D1 y e => by
      have e : [(⟨k.t, k.a, [⟨k.e, g k⟩]⟩ : Arc)] = D1 ++ [y] := e
      have := List.append_inj' (s₁ := []) e rfl
      have h2 : (⟨k.t, k.a, [⟨k.e, g k⟩]⟩ : Arc) = y := by simpa using this.2
      exact ⟨k, by simp, by rw [← h2], by rw [← h2]⟩⟩
  · rw [List.concat_eq_append] at e
    subst e
    simp only [List.getLast?_concat, List.dropLast_concat]
    have hp := List.pairwise_append.1 d.rise
    obtain ⟨k0, hk0, e1, e2⟩ := d.last D0 x rfl
    split
    · rename_i q
      refine ⟨?_, fun y hy => ?_, List.pairwise_append.2 ⟨hp.1, List.pairwise_singleton .., fun y hy z hz => ?_⟩, fun D1 y e => ?_⟩
      · have hf := d.flat
        rw [flat_app, flat_one] at hf ⊢
        rw [List.map_append, List.map_append, ← hf, List.append_assoc]
        show _ ++ (x.es.map _ ++ [(⟨x.t, x.n, k.e⟩, g k)]) = _ ++ (_ ++ [(k, g k)])
        rw [q.1, q.2]
        have : ekey (⟨k.t, k.a, x.es ++ [⟨k.e, g k⟩]⟩ : Arc) = ekey x := by funext e; unfold ekey; rw [q.1, q.2]
        rw [this]
      · rcases List.mem_append.1 hy with hy | hy
        · exact d.ne y (List.mem_append_left _ hy)
        · rw [List.mem_singleton.1 hy]; simp
      · rw [List.mem_singleton.1 hz]; exact hp.2.2 y hy x (by simp)
      · have := List.append_inj' e rfl
        have h2 : (⟨x.t, x.n, x.es ++ [⟨k.e, g k⟩]⟩ : Arc) = y := by simpa using this.2
        exact ⟨k, by simp, by rw [← h2]; exact q.1.symm, by rw [← h2]; exact q.2.symm⟩
    · rename_i q
      have hb := blt_of (es := [⟨k.e, g k⟩]) (hr k0 hk0) e1 e2 q
      refine ⟨?_, fun y hy => ?_, List.pairwise_append.2 ⟨d.rise, List.pairwise_singleton .., fun y hy z hz => ?_⟩, fun D1 y e => ?_⟩
      · rw [flat_app, flat_one, d.flat, List.map_append]; rfl
      · rcases List.mem_append.1 hy with hy | hy
        · exact d.ne y hy
        · rw [List.mem_singleton.1 hy]; simp
      · rw [List.mem_singleton.1 hz]
        rcases List.mem_append.1 hy with hy | hy
        · exact blt_trans (hp.2.2 y hy x (by simp)) hb
        · rw [List.mem_singleton.1 hy]; exact hb
      · have := List.append_inj' e rfl
        have h2 : (⟨k.t, k.a, [⟨k.e, g k⟩]⟩ : Arc) = y := by simpa using this.2
        exact ⟨k, by simp, by rw [← h2], by rw [← h2]⟩
theorem dump_inv (g : Key → ByteArray) {ks : List Key} (hr : KRise ks) : DI g ks (dumpOf g ks) := by
  have : ∀ n, n ≤ ks.length → DI g (ks.take n) (dumpOf g (ks.take n)) := by
    intro n
    induction n with
    | zero => intro _; exact ⟨rfl, by simp [dumpOf], List.Pairwise.nil, fun D0 x e => by simp [dumpOf] at e⟩
    | succ n ih =>
      intro hn
      have et : ks.take (n + 1) = ks.take n ++ [ks[n]] := List.take_succ_eq_append_getElem (by omega)
      have hd : dumpOf g (ks.take (n + 1)) = dstep (dumpOf g (ks.take n)) ks[n] (g ks[n]) := by rw [et]; unfold dumpOf; rw [List.foldl_append]; rfl
      rw [hd, et]
      refine (ih (by omega)).step fun k0 hk0 => ?_
      obtain ⟨j, hj, rfl⟩ := List.mem_iff_getElem.1 hk0
      rw [List.length_take] at hj
      rw [List.getElem_take]
      exact List.pairwise_iff_getElem.1 hr j n (by omega) (by omega) (by omega)
  have := this ks.length (Nat.le_refl _)
  rwa [List.take_of_length_le (Nat.le_refl _)] at this
theorem flat_box {x : Arc} : ∀ {D : List Arc}, D.Pairwise blt → x ∈ D → (flatD D).filter (fun p => decide (p.1.t = x.t) && decide (p.1.a = x.n)) = x.es.map fun e => (ekey x e, e.d)
  | [], _, h => by cases h
  | y :: D, hp, hx => by
    have hc := List.pairwise_cons.1 hp
    have e : flatD (y :: D) = (y.es.map fun e => (ekey y e, e.d)) ++ flatD D := by rw [show y :: D = [y] ++ D from rfl, flat_app, flat_one]
    have hne : ∀ {z : Arc}, ¬ (z.t = x.t ∧ z.n = x.n) → (z.es.map fun e => (ekey z e, e.d)).filter (fun p => decide (p.1.t = x.t) && decide (p.1.a = x.n)) = [] := by
      intro z hz
      rw [List.filter_eq_nil_iff]
      intro p hp q
      obtain ⟨e, _, rfl⟩ := List.mem_map.1 hp
      rw [Bool.and_eq_true, decide_eq_true_eq, decide_eq_true_eq] at q
      exact hz q
    rw [e, List.filter_append]
    by_cases hxy : x = y
    · subst hxy
      have h1 : (x.es.map fun e => (ekey x e, e.d)).filter (fun p => decide (p.1.t = x.t) && decide (p.1.a = x.n)) = x.es.map fun e => (ekey x e, e.d) := by
        rw [List.filter_eq_self]
        intro p hp
        obtain ⟨e, _, rfl⟩ := List.mem_map.1 hp
        unfold ekey; simp
      have h2 : (flatD D).filter (fun p => decide (p.1.t = x.t) && decide (p.1.a = x.n)) = [] := by
        rw [List.filter_eq_nil_iff]
        intro p hp q
        unfold flatD at hp
        obtain ⟨z, hz, hp⟩ := List.mem_flatMap.1 hp
        have := hne (z := z) (fun w => blt_ne (hc.1 z hz) ⟨w.1.symm, w.2.symm⟩)
        rw [List.filter_eq_nil_iff] at this
        exact this p hp q
      rw [h1, h2, List.append_nil]
    · have hx' : x ∈ D := (List.mem_cons.1 hx).resolve_left hxy
      rw [hne (blt_ne (hc.1 x hx')), List.nil_append, flat_box hc.2 hx']
/-- An archive's names are what List says. -/
theorem dump_names {g : Key → ByteArray} {ks : List Key} (hr : KRise ks) {x : Arc} (hx : x ∈ dumpOf g ks) : (ks.filter fun k => decide (k.t = x.t) && decide (k.a = x.n)).map Key.e = x.es.map Ent.n := by
  have d := dump_inv g hr
  have h1 := flat_box d.rise hx
  rw [d.flat, List.filter_map] at h1
  have := congrArg (List.map fun p : Key × ByteArray => p.1.e) h1
  rw [List.map_map, List.map_map] at this
  exact this
theorem ent_in {g : Key → ByteArray} {ks : List Key} (hr : KRise ks) {x : Arc} {e : Ent} (hx : x ∈ dumpOf g ks) (he : e ∈ x.es) : ekey x e ∈ ks ∧ e.d = g (ekey x e) := by
  have d := dump_inv g hr
  have : (ekey x e, e.d) ∈ flatD (dumpOf g ks) := by
    unfold flatD; exact List.mem_flatMap.2 ⟨x, hx, List.mem_map_of_mem (f := fun e => (ekey x e, e.d)) he⟩
  rw [d.flat] at this
  obtain ⟨k, hk, e2⟩ := List.mem_map.1 this
  have e3 := congrArg Prod.fst e2
  have e4 := congrArg Prod.snd e2
  simp only at e3 e4
  subst e3
  exact ⟨hk, e4.symm⟩
def foundIn (k : Key) (D : List Arc) : Bool := (flatD D).any fun p => decide (p.1 = k)
theorem found_all {g : Key → ByteArray} {ks : List Key} (hr : KRise ks) (k : Key) : foundIn k (dumpOf g ks) = ks.any fun x => decide (x = k) := by
  unfold foundIn; rw [(dump_inv g hr).flat, List.any_map]; rfl
end Go.Proofs.Ytjkfngolgjbakaa

set_option maxRecDepth 20000
set_option linter.unusedVariables false
set_option linter.unusedSimpArgs false
namespace Go.Proofs.Ytjkfngolgjbakaa
open Go Go.HW
variable {h : Heap} {L : List Assn} {Q : Value → Heap → Prop}
theorem ChainDumps_spec {a : OA} {n c : Nat} {l : List OpV} {k : Key} {t : Int} (hr : Rd h a (l.flatMap opV)) (hn : l.length = n) (hmax : n < 2 ^ 50) (hw : ∀ o ∈ l, Rd h o.cm.a (o.cm.ws.flatMap wrV) ∧ o.cm.ws.length = o.cm.n ∧ o.cm.n < 2 ^ 60)
    (HQ : ∀ h', ExtB h.size h h' → Q (.bool true) h') : SpecH PP F_law12_ChainDumps [.slice a n c, keyA k, .int .i64 t] h Q := by
  refine law12_ChainDumps.door ?_
  dsimp only
  suffices main : ∀ {h1 : Heap} {k4 : Nat}, Hs h1 [pt k4 T_api_Key (keyV k), ro h] → SpecH PP F_law12_large [.slice a n c] h1 (fun v h2 => ∃ (t21 : Bool), v = (.bool t21) ∧
      br t21 (SpecH PP F_law12_awake [] h2 (fun v_1 h3 => ∃ (t22 : Bool), v_1 = (.bool t22) ∧ Q (.bool t22) h3)) (SpecH PP F_law12_built [.slice a n c] h2 (fun v_2 h4 => ∃ (t24 : OA), v_2 = (.pointer t24) ∧
        br (Option.isNone t24) (Q (.bool false) h4) (SpecH PP F_chain_Store_Dump [.pointer t24, .int .i64 t] h4 (fun v_3 h5 => ∃ (t29 : OA) (t29n t29c : Nat), v_3 = (.slice t29 t29n t29c) ∧
          ∃ (t32f0 t32f1 t32f2 : ByteArray), rdCells h5 ⟨k4, 0, none⟩ 0 [.string t32f0, .string t32f1, .string t32f2] ∧
          SpecH PP F_chain_Store_Get [.pointer t24, .agg #[.string t32f0, .string t32f1, .string t32f2], .int .i64 t] h5 (fun v_4 h6 => ∃ (t34 : ByteArray) (t34_1 : Bool), v_4 = (.tuple #[.string t34, .bool t34_1]) ∧
            law12_ChainDumps.L1 t ⟨k4, 0, none⟩ t24 t29 t29n t29c t34 t34_1 false 0 (law12_ChainDumps.K1 Q) h6)))))) from main ((Hs.start h).new (t := T_api_Key) (cs := (keyV k).toArray) (xs := keyV k))
  intro h1 k4 H
  have fin : ∀ {h' : Heap} {M : List Assn}, Hs h' (ro h :: M) → Q (.bool true) h' := fun H => HQ _ H.ro_below
  have g : Gv [pt k4 T_api_Key (keyV k), ro h] a (l.flatMap opV) := (Gv.ro hr).cons
  have hok : ∀ o ∈ l, CmOk [pt k4 T_api_Key (keyV k), ro h] o.cm := fun o ho => CmOk.cons ⟨Gv.ro (hw o ho).1, (hw o ho).2.1, (hw o ho).2.2⟩
  refine large_hs g hn hmax (fun o ho => (hw o ho).2.2) H fun b hbig => ⟨_, rfl, (br_iff _ _ _).2 ⟨fun e => aw_hs H fun h1 H1 => ⟨_, rfl, fin H1.tl⟩, fun e => ?_⟩⟩
  have hbig := hbig e
  refine built_hs g hn hok hbig H fun h3 s v r lk hf ht H3 => ⟨_, rfl, br_false rfl ?_⟩
  have ci := lk.ci
  refine Dump_hs ci (by omega) H3 fun h4 da dc ks hk hl H4 => ⟨_, _, _, rfl, _, _, _, H4.m2.rdc0, ?_⟩
  refine Get_hs (k := k) ci (by omega) H4.m1 fun h5 H5 => ⟨_, _, rfl, ?_⟩
  have H5 := H5.m1
  have hd := dump_len (fun k => (v.get k t).1) ks
  have di := dump_inv (fun k => (v.get k t).1) hk.rise
  have hnames := fun x hx => dump_names (g := fun k => (v.get k t).1) hk.rise (x := x) hx
  have hents := fun x e hx he => ent_in (g := fun k => (v.get k t).1) hk.rise (x := x) (e := e) hx he
  have hfound := found_all (g := fun k => (v.get k t).1) hk.rise k
  generalize hD : dumpOf (fun k => (v.get k t).1) ks = D at *
  obtain ⟨P, hP, H6⟩ := arcsA_open.1 H5
  have hPl : P.length = D.length := by rw [← hP, List.length_map]
  have hPD : ∀ {j : Nat} (hj : j < P.length), P[j].arc = D[j]'(by omega) := fun {j} hj => by subst hP; simp
  have hmem : ∀ {j : Nat} (hj : j < P.length), P[j].arc ∈ D := fun {j} hj => by rw [hPD hj]; exact List.getElem_mem _
  have hthere : (ks.any fun x => decide (x = k)) = (v.get k t).2 := by
    rw [Bool.eq_iff_iff, ← hk.mem k, List.any_eq_true]
    constructor
    · rintro ⟨x, hx, e⟩; rw [← of_decide_eq_true e]; exact hx
    · intro q; exact ⟨k, q, decide_eq_true rfl⟩
  -- over the archives
  have go : ∀ (m i : Nat) (cur : List PArc) {hh : Heap}, m + i = P.length → cur.length = P.length → (∀ j (h1 : j < cur.length) (h2 : j < P.length), arcV cur[j] = arcV P[j]) → (∀ j (h1 : j < cur.length) (h2 : j < P.length), i ≤ j → cur[j] = P[j]) →
      Hs hh (own da P.length dc T_api_Archive 3 (P.flatMap arcV) :: Sp (cur.map entA) :: pt k4 T_api_Key (keyV k) :: storeA s v :: [ro h]) →
      law12_ChainDumps.L1 t ⟨k4, 0, none⟩ (some ⟨s, 0, none⟩) da P.length dc (v.get k t).1 (v.get k t).2 (foundIn k (D.take i)) (i : Int) (law12_ChainDumps.K1 Q) hh := by
    intro m
    induction m with
    | zero =>
      intro i cur hh hi hcl hca hce H
      refine law12_ChainDumps.L1_of (br_false (decide_eq_false (by omega)) (law12_ChainDumps.L1_X0 ⟨_, _, _, H.m2.rdc0, Get_hs (k := k) ci (by omega) H.m3 fun h7 H7 => ⟨_, _, rfl, aw_hs H7 fun h8 H8 => ⟨_, rfl, br_true rfl (br_true ?_ (br_true (decide_eq_true rfl) ?_))⟩⟩⟩))
      · rw [List.take_of_length_le (by omega), hfound, hthere]; exact beq_self_eq_true _
      · rw [beq_self_eq_true]; exact fin (H8.sel 5 [4])
    | succ m ih =>
      intro i cur hh hi hcl hca hce H
      have hip : i < P.length := by omega
      have A : ∀ {hh : Heap} {M : List Assn} {j : Nat} (hj : j < P.length), Hs hh (own da P.length dc T_api_Archive 3 (P.flatMap arcV) :: M) → ∀ {R : Addr → Heap → Prop}, (∀ t, rdCells hh t 0 (arcV P[j]) → R t hh) → hwp PP (Instr.indexAt T_sl_api_Archive (.slice da P.length dc) (.int .i64 (j : Int))) (fun u h1 => ∃ t, u = .pointer (some t) ∧ R t h1) hh := fun {hh M j} hj H {R} K =>
        idxf E_sl_api_Archive (φ := arcV) (l := P) (x := P[j]) H.rd arcV_len (by decide) (by omega) (by omega) (by simp) K
      have hx := hmem hip
      have hne : P[i].es ≠ [] := di.ne _ hx
      have hpos : 0 < P[i].es.length := List.length_pos_iff.2 hne
      have hel : P[i].es.length ≤ ks.length := hd.2 _ hx
      have hcur : cur[i]'(by omega) = P[i] := hce i (by omega) hip (Nat.le_refl _)
      have hfi : ∀ (j : Nat), foundIn k (D.take i) = true ∨ True := fun _ => .inr trivial
      have hf1 : foundIn k (D.take (i + 1)) = (foundIn k (D.take i) || P[i].es.any fun e => decide (ekey P[i].arc e = k)) := by
        rw [List.take_succ_eq_append_getElem (by omega)]
        unfold foundIn
        rw [flat_app, List.any_append, flat_one, List.any_map, ← hPD hip]; rfl
      -- the round's inner part
      have J1 : law12_ChainDumps.J1 t ⟨k4, 0, none⟩ (some ⟨s, 0, none⟩) da P.length dc (v.get k t).1 (v.get k t).2 (foundIn k (D.take i)) (i : Int) false (law12_ChainDumps.K1 Q) hh := by
        refine law12_ChainDumps.J1_of (br_false rfl ?_)
        -- behind all names
        have last : ∀ {na : OA} {nc : Nat} {h7 : Heap}, Hs h7 (own na P[i].es.length nc T_string 1 ((P[i].es.map Ent.n).map Value.string) :: own da P.length dc T_api_Archive 3 (P.flatMap arcV) :: Sp (cur.map entA) :: pt k4 T_api_Key (keyV k) :: storeA s v :: [ro h]) →
            law12_ChainDumps.K3 (law12_ChainDumps.K1 Q) (.exit 2) (law12_ChainDumps.X2 t ⟨k4, 0, none⟩ (some ⟨s, 0, none⟩) da P.length dc (v.get k t).1 (v.get k t).2 (foundIn k (D.take (i + 1))) (i : Int) na P[i].es.length nc) h7 := by
          intro na nc h7 H7
          refine law12_ChainDumps.L2_X2 (A hip H7.m1 fun t1 ht1 => ⟨_, ht1.1, A hip H7.m1 fun t2 ht2 => ⟨_, ht2.2.1, ?_⟩⟩)
          refine CList_hs (b := ⟨P[i].t, P[i].n⟩) ci (by omega) (H7.sel 5 [4, 0, 1, 2, 3]) fun h8 la lc ks2 hk2 hl2 H8 => ⟨_, _, _, rfl, ?_⟩
          have hks : KeysOf (fun k => (v.get k t).2 && (decide (k.t = P[i].t) && decide (k.a = P[i].n))) (ks.filter fun k => decide (k.t = P[i].arc.t) && decide (k.a = P[i].arc.n)) := ⟨hk.rise.filter _, fun k => by rw [List.mem_filter, hk.mem k]; exact Bool.and_eq_true_iff.symm⟩
          have e2 := hk2.uniq hks
          have e3 : ks2.map Key.e = P[i].es.map Ent.n := by rw [e2]; exact hnames _ hx
          have el : ks2.length = P[i].es.length := by have := congrArg List.length e3; simpa using this
          have em : (ks2.map fun k => Value.string k.e) = (P[i].es.map Ent.n).map Value.string := by rw [← e3, List.map_map]; rfl
          rw [em] at H8
          rw [el] at H8 ⊢
          refine KTexts_hs (l := P[i].es.map Ent.n) (Gv.own) (Gv.own.cons.cons) (by simp) (by omega) H8 ⟨_, rfl, br_false rfl ?_⟩
          have H9 : Hs h8 (own da P.length dc T_api_Archive 3 (P.flatMap arcV) :: Sp (cur.map entA) :: pt k4 T_api_Key (keyV k) :: storeA s v :: [ro h]) := H8.sel 6 [3, 4, 5, 1]
          refine A hip H9 fun t3 ht3 => ⟨_, _, _, ht3.2.2.1, ?_⟩
          have F := Hs.focus (As := cur.map entA) (i := i) (A := entA P[i]) (by rw [List.getElem?_map, List.getElem?_eq_getElem (by omega), hcur]; rfl) H9.m1
          have F : Hs h8 (own P[i].a P[i].es.length P[i].c T_api_Entry 2 (P[i].es.flatMap entV) :: Sp ((cur.map entA).eraseIdx i) :: own da P.length dc T_api_Archive 3 (P.flatMap arcV) :: pt k4 T_api_Key (keyV k) :: storeA s v :: [ro h]) := F
          refine Hs.idx_at E_sl_api_Entry F (by decide) (by omega) (by omega) fun b off ea => ?_
          obtain ⟨e0, es', hes⟩ := List.exists_cons_of_ne_nil hne
          rw [add_mk]
          have hlen2 : (P[i].es.flatMap entV).length = P[i].es.length * 2 := flat_len entV_len _
          refine Hs.setAt F ea (i := 1) (by omega) rfl fun h9 F9 => ?_
          have es2 : (P[i].es.flatMap entV).set 1 (.string ⟨#[115, 112, 111, 105, 108, 116]⟩) = ((⟨e0.n, ⟨#[115, 112, 111, 105, 108, 116]⟩⟩ : Ent) :: es').flatMap entV := by rw [hes]; rfl
          rw [es2] at F9
          have el2 : P[i].es.length = ((⟨e0.n, ⟨#[115, 112, 111, 105, 108, 116]⟩⟩ : Ent) :: es').length := by rw [hes]; rfl
          have F10 : Hs h9 (entA ⟨P[i].t, P[i].n, P[i].a, P[i].c, (⟨e0.n, ⟨#[115, 112, 111, 105, 108, 116]⟩⟩ : Ent) :: es'⟩ :: Sp ((cur.map entA).eraseIdx i) :: own da P.length dc T_api_Archive 3 (P.flatMap arcV) :: pt k4 T_api_Key (keyV k) :: storeA s v :: [ro h]) := by
            unfold entA
            simp only
            rw [← el2]; exact F9
          have F11 := Hs.unfocus (by rw [List.length_map]; omega) F10
          rw [← List.map_set] at F11
          dsimp only
          rw [i1 (i := i) (by omega)]
          refine ih (i + 1) _ (by omega) (by rw [List.length_set]; exact hcl) (fun j h1 h2 => ?_) (fun j h1 h2 hij => ?_) F11.m1
          · rw [List.length_set] at h1
            rw [List.getElem_set]
            split
            · rename_i q; subst q
              unfold arcV; simp only; rw [← el2]
            · exact hca j h1 h2
          · rw [List.length_set] at h1
            rw [List.getElem_set_ne (by omega)]
            exact hce j h1 h2 (by omega)
        -- over the entries
        have go2 : ∀ (w j : Nat) {na : OA} {nc : Nat} {h7 : Heap}, w + j = P[i].es.length → Hs h7 (own na (P[i].es.take j).length nc T_string 1 (((P[i].es.take j).map Ent.n).map Value.string) :: own da P.length dc T_api_Archive 3 (P.flatMap arcV) :: Sp (cur.map entA) :: pt k4 T_api_Key (keyV k) :: storeA s v :: [ro h]) →
            law12_ChainDumps.L2 t ⟨k4, 0, none⟩ (some ⟨s, 0, none⟩) da P.length dc (v.get k t).1 (v.get k t).2 (foundIn k (D.take i) || (P[i].es.take j).any fun e => decide (ekey P[i].arc e = k)) (i : Int) na (P[i].es.take j).length nc (j : Int) (law12_ChainDumps.K3 (law12_ChainDumps.K1 Q)) h7 := by
          intro w
          induction w with
          | zero =>
            intro j na nc h7 hj H7
            refine law12_ChainDumps.L2_of (A hip H7.m1 fun t1 ht1 => ⟨_, _, _, ht1.2.2.1, br_false (decide_eq_false (by omega)) ?_⟩)
            rw [List.take_of_length_le (l := P[i].es) (i := j) (by omega)] at H7 ⊢
            have := last H7
            rw [hf1] at this; exact this
          | succ w ihw =>
            intro j na nc h7 hj H7
            have hje : j < P[i].es.length := by omega
            have et : P[i].es.take (j + 1) = P[i].es.take j ++ [P[i].es[j]] := List.take_succ_eq_append_getElem hje
            obtain ⟨hin, hda⟩ := hents _ _ hx (List.getElem_mem (l := P[i].arc.es) (n := j) hje)
            have hda : P[i].es[j].d = (v.get (ekey P[i].arc P[i].es[j]) t).1 := hda
            have hget : (v.get (ekey P[i].arc P[i].es[j]) t).2 = true := (hk.mem _).1 hin
            refine law12_ChainDumps.L2_of (A hip H7.m1 fun t1 ht1 => ⟨_, _, _, ht1.2.2.1, br_true (decide_eq_true (by omega)) (A hip H7.m1 fun t1 ht1 => ⟨_, _, _, ht1.2.2.1, ?_⟩)⟩)
            have F := Hs.focus (As := cur.map entA) (i := i) (A := entA P[i]) (by rw [List.getElem?_map, List.getElem?_eq_getElem (by omega), hcur]; rfl) H7.m2
            have F : Hs h7 (own P[i].a P[i].es.length P[i].c T_api_Entry 2 (P[i].es.flatMap entV) :: _) := F
            refine idxf E_sl_api_Entry (φ := entV) (l := P[i].es) (x := P[i].es[j]) (Hs.rd F) entV_len (by decide) (by omega) (by omega) (by simp) fun t3 ht3 => ⟨_, _, ht3, ?_⟩
            clear F
            have hek : ekey P[i].arc P[i].es[j] = ⟨P[i].t, P[i].n, P[i].es[j].n⟩ := rfl
            generalize P[i].es[j] = e at et hda hget hek ⊢
            dsimp only
            refine Hs.wrs (b := Array.size h7) (xs := [.string ⟨#[]⟩, .string ⟨#[]⟩]) H7.new (fun h8 H8 => ?_)
            generalize Array.size h7 = x15 at H8 ⊢
            refine A hip H8.m2 fun t4 ht4 => ⟨_, ht4.1, A hip H8.m2 fun t5 ht5 => ⟨_, ht5.2.1, _, H8.cell (off := 0) rfl, ?_⟩⟩
            refine Get_hs (k := ⟨P[i].t, P[i].n, e.n⟩) ci (by omega) H8.m5 fun h9 H9 => ⟨_, _, rfl, ?_⟩
            rw [← hek, hget]
            have H9 : Hs h9 (pt x15 T_api_Entry (entV e) :: own na (P[i].es.take j).length nc T_string 1 (((P[i].es.take j).map Ent.n).map Value.string) :: own da P.length dc T_api_Archive 3 (P.flatMap arcV) :: Sp (cur.map entA) :: pt k4 T_api_Key (keyV k) :: storeA s v :: [ro h]) := H9.sel 6 [1, 2, 3, 4, 5, 0]
            refine br_false rfl ⟨_, H9.cell (off := 1) rfl, ?_⟩
            rw [← hda]
            refine law12_ChainDumps.J2_of (br_false (by simp) ⟨_, H9.cell (off := 0) rfl, ?_⟩)
            have hll : (P[i].es.take j).length = ((P[i].es.take j).map Ent.n).length := by simp
            have H9' := H9.m1
            rw [hll] at H9'
            rw [hll]
            refine str_app (w := e.n) (by rw [← hll, List.length_take]; omega) H9' fun h10 na' nc' H10 => ⟨_, _, _, rfl, ?_⟩
            have e5 : (P[i].es.take j).map Ent.n ++ [e.n] = (P[i].es.take (j + 1)).map Ent.n := by rw [et, List.map_append]; rfl
            rw [e5] at H10 ⊢
            rw [show ((P[i].es.take (j + 1)).map Ent.n).length = (P[i].es.take (j + 1)).length by simp] at H10 ⊢
            have hany : ((P[i].es.take (j + 1)).any fun e => decide (ekey P[i].arc e = k)) = (((P[i].es.take j).any fun e => decide (ekey P[i].arc e = k)) || decide (ekey P[i].arc e = k)) := by rw [et, List.any_append]; simp
            have J3 : ∀ b, b = (foundIn k (D.take i) || (P[i].es.take (j + 1)).any fun e => decide (ekey P[i].arc e = k)) → law12_ChainDumps.J3 t ⟨k4, 0, none⟩ (some ⟨s, 0, none⟩) da P.length dc (v.get k t).1 (v.get k t).2 b (i : Int) na' (P[i].es.take (j + 1)).length nc' (j : Int) (law12_ChainDumps.K3 (law12_ChainDumps.K1 Q)) h10 := by
              intro b hb
              subst hb
              refine law12_ChainDumps.J3_of ?_
              dsimp only
              rw [i1 (i := j) (by omega)]
              exact ihw (j + 1) (by omega) (H10.sel 6 [0, 2, 3, 4, 5])
            refine (br_iff _ _ _).2 ⟨fun q => J3 true ?_, fun q => ⟨_, _, _, H10.m4.rdc0, ?_⟩⟩
            · rw [hany, ← Bool.or_assoc, q]; rfl
            · refine A hip H10.m2 fun t6 ht6 => ⟨_, ht6.1, A hip H10.m2 fun t7 ht7 => ⟨_, ht7.2.1, _, H10.m1.cell (off := 0) rfl, J3 _ ?_⟩⟩
              rw [hany, ← Bool.or_assoc, q, Bool.false_or]
              have := key_dec k ⟨P[i].t, P[i].n, e.n⟩
              rw [this, hek]
              exact decide_eq_decide.2 ⟨fun z => z.symm, fun z => z.symm⟩
        have := go2 P[i].es.length 0 (na := none) (nc := 0) (h7 := hh) (by omega) (H.own_nil T_string 1)
        simp only [List.take_zero, List.any_nil, Bool.or_false] at this
        exact this
      -- the archive stands behind the one ahead
      refine law12_ChainDumps.L1_of (br_true (decide_eq_true (by omega)) ((br_iff _ _ _).2 ⟨fun e => ?_, fun e => ?_⟩))
      · have hi0 : 0 < i := by have := of_decide_eq_true e; omega
        have hb := List.pairwise_iff_getElem.1 di.rise (i - 1) i (by omega) (by omega) (by omega)
        rw [← hPD (j := i - 1) (by omega), ← hPD hip] at hb
        have hb : strLt P[i - 1].t P[i].t = true ∨ (P[i - 1].t = P[i].t ∧ strLt P[i - 1].n P[i].n = true) := hb
        have d0 : IntKind.i64.wrap ((i : Int) - 1) = ((i - 1 : Nat) : Int) := d1 hi0 (by omega)
        dsimp only
        rw [d0]
        have hip1 : i - 1 < P.length := by omega
        refine A hip H fun t1 ht1 => ⟨_, ht1.1, A hip1 H fun t2 ht2 => ⟨_, ht2.1, br_false ?_ ?_⟩⟩
        · rcases hb with q | ⟨q, _⟩
          · exact sl_asymm q
          · rw [q]; exact sl_irrefl _
        refine A hip H fun t3 ht3 => ⟨_, ht3.1, A hip1 H fun t4 ht4 => ⟨_, ht4.1, (br_iff _ _ _).2 ⟨fun q => ?_, fun q => ?_⟩⟩⟩
        · have q := of_decide_eq_true q
          have hb2 : strLt P[i - 1].n P[i].n = true := by
            rcases hb with z | ⟨_, z⟩
            · rw [q, sl_irrefl] at z; cases z
            · exact z
          refine A hip H fun t5 ht5 => ⟨_, ht5.2.1, A hip1 H fun t6 ht6 => ⟨_, ht6.2.1, br_false ?_ ?_⟩⟩
          · rw [sl_asymm hb2, Bool.false_or]
            exact decide_eq_false fun z => by rw [z, sl_irrefl] at hb2; cases hb2
          · refine A hip H fun t7 ht7 => ⟨_, _, _, ht7.2.2.1, ?_⟩
            rw [show (((P[i].es.length : Nat) : Int) == 0) = false from beq_eq_false_iff_ne.2 (by omega)]
            exact J1
        · refine A hip H fun t7 ht7 => ⟨_, _, _, ht7.2.2.1, ?_⟩
          rw [show (((P[i].es.length : Nat) : Int) == 0) = false from beq_eq_false_iff_ne.2 (by omega)]
          exact J1
      · refine A hip H fun t7 ht7 => ⟨_, _, _, ht7.2.2.1, ?_⟩
        rw [show (((P[i].es.length : Nat) : Int) == 0) = false from beq_eq_false_iff_ne.2 (by omega)]
        exact J1
  have := go P.length 0 P (by omega) rfl (fun _ _ _ => rfl) (fun _ _ _ _ => rfl) (H6.sel 5 [0, 1, 3, 2, 4])
  rw [hPl] at this
  exact this
end Go.Proofs.Ytjkfngolgjbakaa

set_option maxRecDepth 20000
set_option linter.unusedVariables false
set_option linter.unusedSimpArgs false
namespace Go.Proofs.Ytjkfngolgjbakaa
open Go Go.HW
variable {h : Heap} {L : List Assn} {Q : Value → Heap → Prop}
theorem GetN_hs {k : Key} {t : Int} (H : Hs h L) (kk : ∀ h', Hs h' L → Q (.tuple #[.string ⟨#[]⟩, .bool false]) h') : SpecH PP F_chain_Store_Get [.pointer none, keyA k, .int .i64 t] h Q :=
  chain_Store_Get.door (br_true rfl (kk _ (H.ext (.push _ _))))
theorem PutN_hs {x : Cm} (H : Hs h L) (kk : ∀ h', Hs h' L → Q (.int .i64 3) h') : SpecH PP F_chain_Store_Put [.pointer none, .agg (cmV x).toArray] h Q :=
  chain_Store_Put.door (br_true rfl (kk _ (H.ext (.push _ _))))
theorem ListN_hs {b : Bx} {t : Int} (H : Hs h L) (kk : ∀ h', Hs h' L → Q (.slice none 0 0) h') : SpecH PP F_chain_Store_List [.pointer none, bxA b, .int .i64 t] h Q := by
  refine chain_Store_List.door ?_
  dsimp only
  exact chain_Store_keys.door (br_true rfl ⟨_, _, _, rfl, chain_Store_List.L1_of (br_false rfl (chain_Store_List.L1_X0 (kk _ (H.ext (.push _ _)))))⟩)
theorem DumpN_hs {t : Int} (H : Hs h L) (kk : ∀ h', Hs h' L → Q (.slice none 0 0) h') : SpecH PP F_chain_Store_Dump [.pointer none, .int .i64 t] h Q := by
  refine chain_Store_Dump.door ?_
  exact chain_Store_keys.door (br_true rfl ⟨_, _, _, rfl, chain_Store_Dump.L1_of (br_false rfl (chain_Store_Dump.L1_X0 (kk _ H)))⟩)
theorem LastN_hs {k : Key} (H : Hs h L) (kk : ∀ h', Hs h' L → Q (.int .i64 0) h') : SpecH PP F_chain_Store_Last [.pointer none, keyA k] h Q :=
  chain_Store_Last.door (br_true rfl (chain_Store_Last.J1_of (br_true rfl (kk _ (H.ext (.push _ _))))))
theorem ChainNil_spec {o : OpV} (HQ : ∀ h', ExtB h.size h h' → Q (.bool true) h') : SpecH PP F_law12_ChainNil [.agg (opV o).toArray] h Q := by
  refine law12_ChainNil.door ?_
  dsimp only
  have H1 := (Hs.start h).new (t := T_haversacklaw12_Op) (cs := (opV o).toArray) (xs := opV o)
  refine ⟨_, _, _, H1.rdo 3 rfl, _, H1.cell (off := 6) rfl, GetN_hs (k := o.k) H1 fun h2 H2 => ⟨_, _, rfl, aw_hs H2 fun h3 H3 => ⟨_, rfl, br_true rfl ⟨_, _, _, _, H3.rdo 1 rfl, PutN_hs (x := o.cm) H3 fun h4 H4 => ⟨_, rfl, br_true rfl (br_true (by decide) (br_true rfl ?_))⟩⟩⟩⟩⟩
  refine ⟨_, _, _, H4.rdo 3 rfl, ?_, ?_, trivial⟩
  · refine box_hs (x := o.k) H4 fun h5 H5 => ⟨_, _, rfl, _, H5.cell (off := 6) rfl, ListN_hs (b := ⟨o.k.t, o.k.a⟩) H5 fun h6 H6 => ⟨_, _, _, rfl, br_true rfl ⟨_, _, _, H6.rdo 3 rfl, LastN_hs (k := o.k) H6 fun h7 H7 => ⟨_, rfl, br_true rfl ?_⟩⟩⟩⟩
    refine chain_Store_Now.door (br_true rfl ⟨_, rfl, br_true rfl ⟨_, H7.cell (off := 6) rfl, chain_Store_Prune.door (br_true rfl (chain_Store_Prune.J1_of (br_true rfl ⟨_, rfl, br_true rfl ?_⟩)))⟩⟩)
    refine chain_Store_Versions.door (br_false rfl (chain_Store_Versions.J1_of ⟨_, rfl, br_true rfl ⟨_, H7.cell (off := 6) rfl, DumpN_hs H7 fun h8 H8 => ⟨_, _, _, rfl, HQ _ H8.tl.ro_below⟩⟩⟩))
  · refine ⟨_, H4.cell (off := 6) rfl, box_hs (x := o.k) H4 fun h5 H5 => ⟨_, _, rfl, ListN_hs (b := ⟨o.k.t, o.k.a⟩) H5 fun h6 H6 => ⟨_, _, _, rfl, br_true rfl ⟨_, _, _, H6.rdo 3 rfl, LastN_hs (k := o.k) H6 fun h7 H7 => ⟨_, rfl, br_true rfl ?_⟩⟩⟩⟩⟩
    refine chain_Store_Now.door (br_true rfl ⟨_, rfl, br_true rfl ⟨_, H7.cell (off := 6) rfl, chain_Store_Prune.door (br_true rfl (chain_Store_Prune.J1_of (br_true rfl ⟨_, rfl, br_true rfl ?_⟩)))⟩⟩)
    refine chain_Store_Versions.door (br_false rfl (chain_Store_Versions.J1_of ⟨_, rfl, br_true rfl ⟨_, H7.cell (off := 6) rfl, DumpN_hs H7 fun h8 H8 => ⟨_, _, _, rfl, HQ _ H8.tl.ro_below⟩⟩⟩))
end Go.Proofs.Ytjkfngolgjbakaa

set_option linter.unusedVariables false
namespace Go.Proofs.Ytjkfngolgjbakaa
open Go Go.HW
theorem open_key {W : World} {ecs : List Value} (hl : ecs.length = 3) (g : Dat PP W T_api_Key ecs) : ∃ x, ecs = keyV x ∧ True := by
  match ecs, hl with
  | [a, b, c], _ =>
    have f := g.fields
    rw [FL_api_Key] at f
    obtain ⟨s, e1, _⟩ := (f (T_string, 0, 1) (by simp)).str U_string
    obtain ⟨t, e2, _⟩ := (f (T_string, 1, 1) (by simp)).str U_string
    obtain ⟨u, e3, _⟩ := (f (T_string, 2, 1) (by simp)).str U_string
    cases e1; cases e2; cases e3
    exact ⟨⟨s, t, u⟩, rfl, trivial⟩
theorem open_wr {W : World} {ecs : List Value} (hl : ecs.length = 5) (g : Dat PP W T_api_Write ecs) : ∃ x, ecs = wrV x := by
  match ecs, hl with
  | [a, b, c, d, e], _ =>
    have f := g.fields
    rw [FL_api_Write] at f
    obtain ⟨k, e1, _⟩ := open_key (by rfl) (f (T_api_Key, 0, 3) (by simp))
    obtain ⟨t, e2⟩ := (f (T_bool, 3, 1) (by simp)).bool U_bool
    obtain ⟨u, e3, _⟩ := (f (T_string, 4, 1) (by simp)).str U_string
    cases e1; cases e2; cases e3
    exact ⟨⟨k, t, u⟩, rfl⟩
def CmWf (h : Heap) (x : Cm) : Prop := Rd h x.a (x.ws.flatMap wrV) ∧ x.ws.length = x.n ∧ x.n < 2 ^ 60
theorem open_cm {W : World} {ecs : List Value} (hl : ecs.length = 2) (g : Dat PP W T_api_Commit ecs) : ∃ x, ecs = cmV x ∧ CmWf W.heap x := by
  match ecs, hl with
  | [a, b], _ =>
    have f := g.fields
    rw [FL_api_Commit] at f
    obtain ⟨n, e1, _⟩ := (f (T_int, 0, 1) (by simp)).i64 U_int
    obtain ⟨ad, m, c, l, e2, hr, hn, _, _, _, hs, _⟩ := (f (T_sl_api_Write, 1, 1) (by simp)).rows wrV (fun _ => True) (sz := 5) (e := T_api_Write) U_sl_api_Write C_api_Write (fun _ => rfl) (fun ecs hl g => by obtain ⟨x, e⟩ := open_wr hl g; exact ⟨x, e, trivial⟩)
    rw [show PP.bytesOf T_api_Write = 72 by kernel_rfl] at hs
    cases e1; cases e2
    exact ⟨⟨n, ad, m, c, l⟩, rfl, hr, hn, by show m < 2 ^ 60; omega⟩
end Go.Proofs.Ytjkfngolgjbakaa

set_option linter.unusedVariables false
namespace Go.Proofs.Ytjkfngolgjbakaa
open Go Go.HW
def OpWf (h : Heap) (o : OpV) : Prop := CmWf h o.cm
theorem open_op {W : World} {ecs : List Value} (hl : ecs.length = 7) (g : Dat PP W T_haversacklaw12_Op ecs) : ∃ x, ecs = opV x ∧ OpWf W.heap x := by
  match ecs, hl with
  | [a, b, c, d, e, f1, f2], _ =>
    have f := g.fields
    rw [FL_haversacklaw12_Op] at f
    obtain ⟨n, e1, _⟩ := (f (T_int, 0, 1) (by simp)).i64 U_int
    obtain ⟨x, e2, hx⟩ := open_cm (by rfl) (f (T_api_Commit, 1, 2) (by simp))
    obtain ⟨k, e3, _⟩ := open_key (by rfl) (f (T_api_Key, 3, 3) (by simp))
    obtain ⟨t, e4, _⟩ := (f (T_int, 6, 1) (by simp)).i64 U_int
    cases e1; cases e2; cases e3; cases e4
    exact ⟨⟨n, x, k, t⟩, rfl, hx⟩
end Go.Proofs.Ytjkfngolgjbakaa

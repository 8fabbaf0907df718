/- The six laws of law02: each returns true, whatever the input. -/
import Derived.Test.YthoicidmckkkhaaDoorHwAwake
set_option linter.unusedVariables false
set_option linter.unusedSimpArgs false
namespace Go.Proofs.YthoicidmckkkhaaDoor
open Go Go.HW
section
variable {h : Heap} {a : Option Addr} {n c : Nat} {bs : List (BitVec 8)} {Q : Value → Heap → Prop}

theorem big (hn : ¬ n ≤ 16777216) : decide ((n : Int) > 16777216) = true := by simp; omega
theorem small (hn : n ≤ 16777216) : decide ((n : Int) > 16777216) = false := by simp; omega

theorem sums_spec {s : BitVec 32} (tab : Tab h) (hr : Rd h a (byV bs)) (hn : bs.length = n) (H : ∀ h', ExtB h.size h h' → Q (.bool true) h') : SpecH Tryd.prog 3 [.int .u32 s.toNat, .slice a n c] h Q := by
  refine f3_door ?_
  unfold f3_main
  by_cases hm : n ≤ 16777216
  · refine br_false (small hm) ?_
    refine lent_spec hr hn (by omega) ?_
    intro h1 e1 s1 b1
    refine ⟨_, _, _, rfl, ?_⟩
    have r1 : Rd h1 (some ⟨h.size, 0, none⟩) (byV bs) := Rd.of_blk b1 (by rw [byV_app]; simp)
    refine sum_spec (tab.keep e1) r1 hn (by omega) ⟨_, rfl, ?_⟩
    refine more_spec (tab.keep e1) r1 hn (by omega) ⟨_, rfl, ?_⟩
    refine back_spec b1 (hr.keep e1) hn (by omega) ?_
    intro h2 k2 s2
    have e2 : ExtB h.size h h2 := e1.trans ⟨by omega, fun i hi => k2 i (by omega)⟩
    refine ⟨_, rfl, awake_spec (tab.keep e2) fun h3 e3' => ⟨_, rfl, br_true rfl (br_true rfl ?_)⟩⟩
    have e3 : ExtB h.size h h3 := e2.trans (e3'.mono e2.1)
    refine refSum_spec (hr.keep e3) hn (by omega) ⟨_, rfl, br_true (by simp) ?_⟩
    refine refMore_spec (hr.keep e3) hn (by omega) ⟨_, rfl, ?_⟩
    simp only [beq_self_eq_true]
    exact H h3 e3
  · refine br_true (big hm) ?_
    exact awake_spec tab fun h' e => ⟨_, rfl, H h' e⟩

theorem joins_spec {a2 : Option Addr} {m d : Nat} {cs : List (BitVec 8)} (tab : Tab h) (hr : Rd h a (byV bs)) (hn : bs.length = n) (hr2 : Rd h a2 (byV cs)) (hm2 : cs.length = m) (H : ∀ h', ExtB h.size h h' → Q (.bool true) h') :
    SpecH Tryd.prog 4 [.slice a n c, .slice a2 m d] h Q := by
  refine f4_door ?_
  unfold f4_main
  have aw : f4_J101 a n c a2 m d true Q h := by
    rw [f4_J101_eq]
    exact br_true rfl (awake_spec tab fun h' e => ⟨_, rfl, H h' e⟩)
  by_cases hm : n ≤ 16777216
  · refine br_false (small hm) ?_
    by_cases hmm : m ≤ 16777216
    · rw [small hmm, f4_J101_eq]
      refine br_false rfl ?_
      refine lent_spec hr hn (by omega) ?_
      intro h1 e1 s1 b1
      refine ⟨_, _, _, rfl, ?_⟩
      have o1 : Own h1 (some ⟨h.size, 0, none⟩) n (n + 1) 5 1 (byV bs) := Own.of_blk b1 (by rw [byV_app, ← hn]; simp [byV]) (by simp [byV, hn]) (by omega) (by simp [byV, hn])
      refine hwp_append E23 rfl u23 rfl o1 (ys := byV cs) ⟨rfl, by rw [byV_len]; omega, hr2.keep e1, rd_none hr2 hm2⟩ (byV_one _) (by omega) (by omega) ?_
      intro h2 a' c' hs hk ho hb _
      have e2 : ExtB h.size h h2 := e1.trans ⟨hs, fun i hi => hk i (by omega) (fun ad ha => by cases ha; show h.size ≠ i; omega)⟩
      rw [← byV_app] at ho
      refine ⟨_, _, _, rfl, awake_spec (tab.keep e2) fun h3 e3' => ⟨_, rfl, br_true rfl ?_⟩⟩
      have e3 : ExtB h.size h h3 := e2.trans (e3'.mono e2.1)
      have hal : (bs ++ cs).length = n + m := by simp [hn, hm2]
      refine sum_spec (tab.keep e3) (ho.rd.keep e3') hal (by omega) ⟨_, rfl, ?_⟩
      refine sum_spec (tab.keep e3) (hr.keep e3) hn (by omega) ⟨_, rfl, ?_⟩
      refine more_spec (tab.keep e3) (hr2.keep e3) hm2 (by omega) ⟨_, rfl, ?_⟩
      have ej : Crc.sum (bs ++ cs) = Crc.more (Crc.sum bs) cs := Crc.more_app _ _ _
      rw [ej]
      refine br_true (by simp) ?_
      refine sum_spec (tab.keep e3) (hr.keep e3) hn (by omega) ⟨_, rfl, ?_⟩
      refine more_spec (bs := []) (tab.keep e3) (Rd.nil _ _) rfl (by omega) ⟨_, rfl, ?_⟩
      refine sum_spec (tab.keep e3) (hr.keep e3) hn (by omega) ⟨_, rfl, ?_⟩
      rw [Crc.more_nil]
      simp only [beq_self_eq_true]
      exact H h3 e3
    · rw [big hmm]; exact aw
  · exact br_true (big hm) aw

theorem puts_spec {v : BitVec 64} (tab : Tab h) (hr : Rd h a (byV bs)) (hn : bs.length = n) (H : ∀ h', ExtB h.size h h' → Q (.bool true) h') : SpecH Tryd.prog 6 [.slice a n c, .int .u64 v.toNat] h Q := by
  refine f6_door ?_
  unfold f6_main
  by_cases hm : n ≤ 16777216
  · refine br_false (small hm) ?_
    refine lent_spec hr hn (by omega) ?_
    intro h1 e1 s1 b1
    refine ⟨_, _, _, rfl, ?_⟩
    have r1 : Rd h1 (some ⟨h.size, 0, none⟩) (byV bs) := Rd.of_blk b1 (by rw [byV_app]; simp)
    simp only [wrap16, wrap32b]
    refine put16_spec r1 hn (by omega) ?_
    intro h2 a2 c2 e2 o2 k2
    refine ⟨_, _, _, rfl, ?_⟩
    refine put32_spec (r1.keep e2) hn (by omega) ?_
    intro h3 a3 c3 e3' o3 k3
    have e3 := e2.trans (e3'.mono e2.1)
    refine ⟨_, _, _, rfl, ?_⟩
    refine put64_spec (r1.keep e3) hn (by omega) ?_
    intro h4 a4 c4 e4' o4 k4
    have e4 := e3.trans (e4'.mono e3.1)
    refine ⟨_, _, _, rfl, ?_⟩
    have e40 := e1.trans (e4.mono e1.1)
    refine back_spec (b1.keep e4 (by omega)) (hr.keep e40) hn (by omega) ?_
    intro h5 k5 s5
    have e50 : ExtB h.size h h5 := e40.trans ⟨by omega, fun i hi => k5 i (by omega)⟩
    refine ⟨_, rfl, awake_spec (tab.keep e50) fun h6 e6' => ⟨_, rfl, br_true rfl (br_true rfl ?_)⟩⟩
    have e60 := e50.trans (e6'.mono e50.1)
    -- what was put lies above all that back changes
    have up : ∀ (hx : Heap) (ax : Option Addr) (m cx : Nat) (xs : List (BitVec 8)), Own hx ax m cx 5 1 (byV xs) → (∀ ad, ax = some ad → h1.size ≤ ad.block) → ExtB hx.size hx h4 → Rd h5 ax (byV xs) := by
      intro hx ax m cx xs o k e
      have r := (o.keep (h' := h5) fun ad ha => ?_).rd
      · exact r
      · have hlt : ad.block < hx.size := by
          obtain ⟨_, _, ⟨q, _⟩ | ⟨b, off, cs, q, hb', _⟩⟩ := o
          · rw [ha] at q; cases q
          · rw [ha] at q; cases q; exact lt_of_get hb'
        rw [k5 _ (by have := k ad ha; omega), e.2 _ hlt]
    have q2 := (up h2 a2 _ _ _ o2 k2 (e3'.trans (e4'.mono e3'.1))).keep e6'
    have q3 := (up h3 a3 _ _ _ o3 (fun ad ha => by have := k3 ad ha; have := e2.1; omega) e4').keep e6'
    have q4 := (up h4 a4 _ _ _ o4 (fun ad ha => by have := k4 ad ha; have := e3.1; omega) (ExtB.refl _ _)).keep e6'
    have l2 : ∀ (k : Nat) (v : BitVec 64), (bs ++ Num.le k v).length = n + k := fun k v => by simp [hn, Num.le_len]
    refine refPut_spec (k := 2) (hr.keep e60) hn (by omega) (by omega) ?_
    intro h7 e7 r7
    refine ⟨_, _, _, rfl, ?_⟩
    rw [Num.le2] at q2
    refine same_spec (q2.keep e7) r7 (l2 _ _) (l2 _ _) (by omega) ⟨_, rfl, br_true (by simp) ?_⟩
    have e70 := e60.trans (e7.mono e60.1)
    refine refPut_spec (k := 4) (hr.keep e70) hn (by omega) (by omega) ?_
    intro h8 e8 r8
    refine ⟨_, _, _, rfl, ?_⟩
    rw [Num.le4] at q3
    refine same_spec ((q3.keep e7).keep e8) r8 (l2 _ _) (l2 _ _) (by omega) ⟨_, rfl, br_true (by simp) ?_⟩
    have e80 := e70.trans (e8.mono e70.1)
    refine refPut_spec (k := 8) (hr.keep e80) hn (by omega) (by omega) ?_
    intro h9 e9 r9
    refine ⟨_, _, _, rfl, ?_⟩
    refine same_spec (((q4.keep e7).keep e8).keep e9) r9 (l2 _ _) (l2 _ _) (by omega) ⟨_, rfl, ?_⟩
    rw [decide_eq_true rfl]
    exact H h9 (e80.trans (e9.mono e80.1))
  · refine br_true (big hm) ?_
    exact awake_spec tab fun h' e => ⟨_, rfl, H h' e⟩
end
end Go.Proofs.YthoicidmckkkhaaDoor

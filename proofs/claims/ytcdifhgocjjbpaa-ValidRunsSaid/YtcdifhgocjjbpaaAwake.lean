/- The law's examples. -/
import Derived.Test.YtcdifhgocjjbpaaAwk
set_option maxRecDepth 20000
set_option linter.unusedVariables false
set_option linter.unusedSimpArgs false
namespace Go.Proofs.Ytcdifhgocjjbpaa
open Go Go.HW
variable {h : Heap} {L : List Assn} {Q : Value → Heap → Prop}
def K2 (a e : ByteArray) : Key := ⟨⟨#[116]⟩, a, e⟩
def kx : Key := K2 ⟨#[97]⟩ ⟨#[120]⟩
def ky : Key := K2 ⟨#[97]⟩ ⟨#[121]⟩
def kq : Key := K2 ⟨#[97]⟩ ⟨#[113]⟩
def kb : Key := K2 ⟨#[98]⟩ ⟨#[113]⟩
def w1 : Wr := ⟨ky, true, ⟨#[49]⟩⟩
def w2 : Wr := ⟨ky, true, ⟨#[50]⟩⟩
def wd : Wr := ⟨kx, false, ⟨#[]⟩⟩
def va : VS := (((((VS.new 3).read kx).list ⟨⟨#[116]⟩, ⟨#[98]⟩⟩).put w1).put wd).put w2
theorem va_vi : VI va := (((((Lk.new 3).read kx).list ⟨⟨#[116]⟩, ⟨#[98]⟩⟩).put w1).put wd |>.put w2).vi
theorem va_own : va.own ky = (w2, true) := by decide +kernel
theorem va_st : va.st.map (·.2) = [w2, wd] := by decide +kernel
theorem va_rise : Rise [wd, w2] := by
  refine List.pairwise_cons.2 ⟨fun y hy => ?_, List.pairwise_singleton ..⟩
  rw [List.mem_singleton.1 hy]; decide +kernel
def cm1 (a : Int) (b : Nat) (k : Key) : Cm := ⟨a, some ⟨b, 0, none⟩, 1, 1, [⟨k, true, ⟨#[]⟩⟩]⟩
theorem va_chk1 {a b c : Nat} : va.check [cm1 3 a kx, cm1 4 b kq, cm1 6 c kb] = (2, 0) := by kernel_rfl
theorem va_chk2 {a b : Nat} : va.check [cm1 4 a kq, cm1 4 b kq] = (-1, 130) := by kernel_rfl
theorem va_cl1 {a : Nat} : va.clash (cm1 4 a kx) = true := by kernel_rfl
theorem va_cl2 {a : Nat} : va.clash (cm1 3 a kx) = false := by kernel_rfl
theorem rdCells_of {h : Heap} {ad : Addr} {xs : List Value} (r : Rd h (some ad) xs) : ∀ (vs : List Value) (j0 : Nat), (∀ (j : Nat) v, vs[j]? = some v → xs[j0 + j]? = some v) → rdCells h ad j0 vs
  | [], _, _ => trivial
  | v :: vs, j0, hv => ⟨r.cell (hv 0 v rfl), rdCells_of r vs (j0 + 1) fun j u hu => by
      have := hv (j + 1) u (by simpa using hu)
      rwa [show j0 + (j + 1) = j0 + 1 + j by omega] at this⟩
theorem awake_hs (H : Hs h L) (k : ∀ h', Hs h' L → Q (.bool true) h') : SpecH PP F_law13_awake [] h Q := by
  refine law13_awake.door ?_
  refine New_hs H fun h1 s H1 => ⟨_, rfl, br_false rfl ?_⟩
  refine key_hs H1 fun h2 H2 => ⟨_, _, _, rfl, ?_⟩
  refine Read_hs (k := kx) H2 fun h3 H3 => ⟨rfl, ?_⟩
  refine List_hs (b := ⟨⟨#[116]⟩, ⟨#[98]⟩⟩) H3 fun h4 H4 => ⟨rfl, ?_⟩
  refine key_hs H4 fun h5 H5 => ⟨_, _, _, rfl, ?_⟩
  refine Put_hs (k := ky) H5 fun h6 H6 => ⟨rfl, ?_⟩
  refine key_hs H6 fun h7 H7 => ⟨_, _, _, rfl, ?_⟩
  refine Delete_hs (k := kx) H7 fun h8 H8 => ⟨rfl, ?_⟩
  refine key_hs H8 fun h9 H9 => ⟨_, _, _, rfl, ?_⟩
  refine Put_hs (k := ky) H9 fun h10 H10 => ⟨rfl, ?_⟩
  have H10 : Hs h10 (setA s va :: L) := H10
  refine key_hs H10 fun h11 H11 => ⟨_, _, _, rfl, ?_⟩
  refine Own_hs (k := ky) H11 fun h12 H12 => ?_
  rw [va_own]
  refine ⟨_, _, _, _, _, _, rfl, ?_⟩
  dsimp only
  refine Hs.wrs (b := Array.size h12) (xs := wrV noW) H12.new (fun h14 H14 => ?_)
  generalize Array.size h12 = w at H14 ⊢
  refine Writes_hs va_vi (by decide +kernel) H14.m1 fun h15 ea ec e pe re H15 => ⟨_, _, _, rfl, ?_⟩
  have ee : e = [wd, w2] := by
    refine rise_uniq re va_rise (pe.trans ?_)
    rw [va_st]; exact List.Perm.swap ..
  subst ee
  refine key_hs H15 fun h16 H16 => ⟨_, _, _, rfl, ?_⟩
  refine commit_hs (k := kx) H16 fun h17 b1 H17 => ⟨_, _, _, _, rfl, ?_⟩
  refine key_hs H17 fun h18 H18 => ⟨_, _, _, rfl, ?_⟩
  refine commit_hs (k := kq) H18 fun h19 b2 H19 => ⟨_, _, _, _, rfl, ?_⟩
  refine key_hs H19 fun h20 H20 => ⟨_, _, _, rfl, ?_⟩
  refine commit_hs (k := kb) H20 fun h21 b3 H21 => ⟨_, _, _, _, rfl, ?_⟩
  dsimp only
  have H22 := H21.new (t := T_api_Commit) (cs := ([cm1 3 b1 kx, cm1 4 b2 kq, cm1 6 b3 kb].flatMap cmV).toArray) (xs := [cm1 3 b1 kx, cm1 4 b2 kq, cm1 6 b3 kb].flatMap cmV)
  refine Check_hs (cs := [cm1 3 b1 kx, cm1 4 b2 kq, cm1 6 b3 kb]) va_vi Gv.pt rfl (by omega) ?_ (H22.m5) fun h23 H23 => ?_
  · intro x hx
    simp only [List.mem_cons, List.not_mem_nil, or_false] at hx
    rcases hx with rfl | rfl | rfl
    · exact commit_ok.cons.cons.cons
    · exact commit_ok.cons.cons
    · exact commit_ok.cons
  rw [va_chk1]
  refine ⟨_, _, rfl, ?_⟩
  refine key_hs H23 fun h24 H24 => ⟨_, _, _, rfl, ?_⟩
  refine commit_hs (k := kq) H24 fun h25 b4 H25 => ⟨_, _, _, _, rfl, ?_⟩
  refine key_hs H25 fun h26 H26 => ⟨_, _, _, rfl, ?_⟩
  refine commit_hs (k := kq) H26 fun h27 b5 H27 => ⟨_, _, _, _, rfl, ?_⟩
  dsimp only
  have H28 := H27.new (t := T_api_Commit) (cs := ([cm1 4 b4 kq, cm1 4 b5 kq].flatMap cmV).toArray) (xs := [cm1 4 b4 kq, cm1 4 b5 kq].flatMap cmV)
  refine Check_hs (cs := [cm1 4 b4 kq, cm1 4 b5 kq]) va_vi Gv.pt rfl (by omega) ?_ (H28.m3) fun h29 H29 => ?_
  · intro x hx
    simp only [List.mem_cons, List.not_mem_nil, or_false] at hx
    rcases hx with rfl | rfl
    · exact commit_ok.cons.cons
    · exact commit_ok.cons
  rw [va_chk2]
  refine ⟨_, _, rfl, ?_⟩
  have G := H29.m8.m2.tl.m2.tl.m2.tl.m2.tl.m2.tl.m2.tl.m2.tl
  have J : ∀ {h : Heap}, Hs h (own ea [wd, w2].length ec T_api_Write 5 ([wd, w2].flatMap wrV) :: setA s va :: pt w T_api_Write (wrV w2) :: L) → law13_awake.J1 (some ⟨s, 0, none⟩) 2 0 (-1) 130 true Q h := by
    intro h H
    refine law13_awake.J1_of (br_true rfl (br_true rfl (br_true rfl (br_true rfl (br_true rfl ?_)))))
    refine key_hs H.m1 fun h1 H1 => ⟨_, _, _, rfl, ?_⟩
    refine commit_hs (k := kx) H1 fun h2 b H2 => ⟨_, _, _, _, rfl, ?_⟩
    refine Clash_hs (x := cm1 4 b kx) va_vi commit_ok H2.m1 fun h3 H3 => ?_
    rw [va_cl1]
    refine ⟨_, rfl, br_true rfl ?_⟩
    refine key_hs H3 fun h4 H4 => ⟨_, _, _, rfl, ?_⟩
    refine commit_hs (k := kx) H4 fun h5 b' H5 => ⟨_, _, _, _, rfl, ?_⟩
    refine Clash_hs (x := cm1 3 b' kx) va_vi commit_ok H5.m1 fun h6 H6 => ?_
    rw [va_cl2]
    exact ⟨_, rfl, k h6 H6.tl.tl.tl.tl.tl⟩
  have two : ∀ {h : Heap} {R : Addr → Heap → Prop}, Hs h (own ea [wd, w2].length ec T_api_Write 5 ([wd, w2].flatMap wrV) :: setA s va :: pt w T_api_Write (wrV w2) :: L) →
      (∀ t, (∀ h', Hs h' (own ea [wd, w2].length ec T_api_Write 5 ([wd, w2].flatMap wrV) :: setA s va :: pt w T_api_Write (wrV w2) :: L) → rdCells h' t 0 (wrV wd)) → R t h) → hwp PP (Instr.indexAt T_sl_api_Write (.slice ea [wd, w2].length ec) (.int .i64 0)) (fun u h1 => ∃ t, u = .pointer (some t) ∧ R t h1) h := by
    intro h R H K
    have hle := H.own_le
    obtain ⟨b, off, ys, e1, _, _, _⟩ := H.own_pt (by have : [wd, w2].length = 2 := rfl
                                                     omega)
    rw [e1] at K ⊢
    refine hwp_index E_sl_api_Write (by decide) (by decide) ⟨_, rfl, K _ fun h' H' => ?_⟩
    rw [show Int.toNat 0 * 5 = 0 from rfl, add_mk]
    exact rdCells_of H'.rd (wrV wd) 0 fun j v hv => by
      rw [Nat.zero_add, List.flatMap_cons, List.getElem?_append_left (List.getElem?_eq_some_iff.1 hv).1]; exact hv
  have t1 : ((decide (w2.k.t = ky.t) && (decide (w2.k.a = ky.a) && (decide (w2.k.e = ky.e) && true))) && ((w2.there == true) && (decide (w2.data = (⟨#[50]⟩ : ByteArray)) && true))) = true := by decide +kernel
  have t2 : ((decide (wd.k.t = kx.t) && (decide (wd.k.a = kx.a) && (decide (wd.k.e = kx.e) && true))) && ((wd.there == false) && (decide (wd.data = (⟨#[]⟩ : ByteArray)) && true))) = true := by decide +kernel
  have J' : ∀ {h : Heap} (b : Bool), b = true → Hs h (own ea [wd, w2].length ec T_api_Write 5 ([wd, w2].flatMap wrV) :: setA s va :: pt w T_api_Write (wrV w2) :: L) → law13_awake.J1 (some ⟨s, 0, none⟩) 2 0 (-1) 130 b Q h := fun b e H => e ▸ J H
  refine ⟨br_true rfl ⟨_, _, _, _, _, G.m2.rdc0, key_hs G fun h34 H34 => ⟨_, _, _, rfl, br_true t1 (br_true rfl ?_)⟩⟩, br_true rfl (key_hs G fun h34 H34 => ⟨_, _, _, rfl, _, _, _, _, _, H34.m2.rdc0, br_true t1 (br_true rfl ?_)⟩), trivial⟩
  · exact two H34 fun t ht => ⟨⟨_, _, _, _, _, ht _ H34, key_hs H34 fun h37 H37 => ⟨_, _, _, rfl, J' _ t2 H37⟩⟩, key_hs H34 fun h36 H36 => ⟨_, _, _, rfl, _, _, _, _, _, ht _ H36, J' _ t2 H36⟩, trivial⟩
  · exact two H34 fun t ht => ⟨⟨_, _, _, _, _, ht _ H34, key_hs H34 fun h37 H37 => ⟨_, _, _, rfl, J' _ t2 H37⟩⟩, key_hs H34 fun h36 H36 => ⟨_, _, _, rfl, _, _, _, _, _, ht _ H36, J' _ t2 H36⟩, trivial⟩
end Go.Proofs.Ytcdifhgocjjbpaa

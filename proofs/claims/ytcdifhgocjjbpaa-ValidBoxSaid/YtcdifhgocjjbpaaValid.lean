/- Contracts of package valid. -/
import Derived.Test.YtcdifhgocjjbpaaVals
set_option maxRecDepth 20000
set_option linter.unusedVariables false
set_option linter.unusedSimpArgs false
namespace Go.Proofs.Ytcdifhgocjjbpaa
open Go Go.HW
variable {h : Heap} {L : List Assn} {Q : Value → Heap → Prop}
structure VS where
  at_ : Int
  rd : List (Key × Bool)
  ls : List (Bx × Bool)
  st : List (Key × Wr)
def setA (s : Nat) (v : VS) : Assn := fun m => ∃ r1 r2 r3, Sp [pt s T_valid_Set [.int .i64 v.at_, .map (some r1), .map (some r2), .map (some r3)], mp keyA Value.bool r1 v.rd, mp bxA Value.bool r2 v.ls, mp keyA wrA r3 v.st] m
theorem setA_open {s : Nat} {v : VS} : Hs h (setA s v :: L) ↔ ∃ r1 r2 r3, Hs h (pt s T_valid_Set [.int .i64 v.at_, .map (some r1), .map (some r2), .map (some r3)] :: mp keyA Value.bool r1 v.rd :: mp bxA Value.bool r2 v.ls :: mp keyA wrA r3 v.st :: L) := by
  unfold setA
  simp only [Hs.ex, Hs.app, List.cons_append, List.nil_append]
def VS.new (a : Int) : VS := ⟨a, [], [], []⟩
def VS.read (v : VS) (k : Key) : VS := { v with rd := mset v.rd k true }
def VS.list (v : VS) (b : Bx) : VS := { v with ls := mset v.ls b true }
def VS.put (v : VS) (w : Wr) : VS := { v with st := mset v.st w.k w }
/-- What was noted is true, what is staged stands at its key. -/
structure VI (v : VS) : Prop where
  rd : ∀ x ∈ v.rd, x.2 = true
  ls : ∀ x ∈ v.ls, x.2 = true
  st : ∀ x ∈ v.st, x.2.k = x.1
theorem New_hs {a : Int} (H : Hs h L) (k : ∀ h' s, Hs h' (setA s (.new a) :: L) → Q (.pointer (some ⟨s, 0, none⟩)) h') : SpecH PP F_valid_New [.int .i64 a] h Q := by
  refine valid_New.door ?_
  have H1 := H.mp_new (κ := keyA) (ν := Value.bool)
  have H2 := H1.mp_new (κ := bxA) (ν := Value.bool)
  have H3 := H2.mp_new (κ := keyA) (ν := wrA)
  have H4 := H3.new (t := T_valid_Set) (cs := #[.int .i64 a, .map (some (Array.size h)), .map (some (Array.size (h.push (.map #[] 0)))), .map (some (Array.size ((h.push (.map #[] 0)).push (.map #[] 0))))])
    (xs := [.int .i64 a, .map (some (Array.size h)), .map (some (Array.size (h.push (.map #[] 0)))), .map (some (Array.size ((h.push (.map #[] 0)).push (.map #[] 0))))])
  exact k _ _ (setA_open.2 ⟨_, _, _, H4.m1.m2.m3.m3⟩)
theorem Read_hs {s : Nat} {v : VS} {k : Key} (H : Hs h (setA s v :: L)) (kk : ∀ h', Hs h' (setA s (v.read k) :: L) → Q (.tuple #[]) h') : SpecH PP F_valid_Set_Read [.pointer (some ⟨s, 0, none⟩), keyA k] h Q := by
  obtain ⟨r1, r2, r3, H⟩ := setA_open.1 H
  refine valid_Set_Read.door ?_
  dsimp only
  have H1 := H.new (t := T_api_Key) (cs := (keyV k).toArray) (xs := keyV k)
  refine br_true rfl ⟨_, H1.m1.cell (off := 1) rfl, _, _, _, H1.rdc0, ?_⟩
  refine H1.m2.mset (t := T_map_api_Key_bool) U_map_api_Key_bool KeyK k true rfl fun h2 H2 => kk h2 (setA_open.2 ⟨r1, r2, r3, ?_⟩)
  exact (H2.m1.tl).m1
theorem List_hs {s : Nat} {v : VS} {b : Bx} (H : Hs h (setA s v :: L)) (kk : ∀ h', Hs h' (setA s (v.list b) :: L) → Q (.tuple #[]) h') : SpecH PP F_valid_Set_List [.pointer (some ⟨s, 0, none⟩), bxA b] h Q := by
  obtain ⟨r1, r2, r3, H⟩ := setA_open.1 H
  refine valid_Set_List.door ?_
  dsimp only
  have H1 := H.new (t := T_api_Box) (cs := (bxV b).toArray) (xs := bxV b)
  refine br_true rfl ⟨_, H1.m1.cell (off := 2) rfl, _, _, H1.rdc0, ?_⟩
  refine H1.m3.mset (t := T_map_api_Box_bool) U_map_api_Box_bool BoxK b true rfl fun h2 H2 => kk h2 (setA_open.2 ⟨r1, r2, r3, ?_⟩)
  exact (H2.m1.tl).m2.m2
theorem Put_hs {s : Nat} {v : VS} {k : Key} {d : ByteArray} (H : Hs h (setA s v :: L)) (kk : ∀ h', Hs h' (setA s (v.put ⟨k, true, d⟩) :: L) → Q (.tuple #[]) h') : SpecH PP F_valid_Set_Put [.pointer (some ⟨s, 0, none⟩), keyA k, .string d] h Q := by
  obtain ⟨r1, r2, r3, H⟩ := setA_open.1 H
  refine valid_Set_Put.door ?_
  dsimp only
  have H1 := H.new (t := T_api_Key) (cs := (keyV k).toArray) (xs := keyV k)
  refine br_true rfl ⟨_, H1.m1.cell (off := 3) rfl, _, _, _, H1.rdc0, _, _, _, H1.rdc0, ?_⟩
  refine H1.m4.mset (t := T_map_api_Key_api_Write) U_map_api_Key_api_Write KeyK k (⟨k, true, d⟩ : Wr) rfl fun h2 H2 => kk h2 (setA_open.2 ⟨r1, r2, r3, ?_⟩)
  exact (H2.m1.tl).m3.m3.m3
theorem Delete_hs {s : Nat} {v : VS} {k : Key} (H : Hs h (setA s v :: L)) (kk : ∀ h', Hs h' (setA s (v.put ⟨k, false, ⟨#[]⟩⟩) :: L) → Q (.tuple #[]) h') : SpecH PP F_valid_Set_Delete [.pointer (some ⟨s, 0, none⟩), keyA k] h Q := by
  obtain ⟨r1, r2, r3, H⟩ := setA_open.1 H
  refine valid_Set_Delete.door ?_
  dsimp only
  have H1 := H.new (t := T_api_Key) (cs := (keyV k).toArray) (xs := keyV k)
  refine br_true rfl ⟨_, H1.m1.cell (off := 3) rfl, _, _, _, H1.rdc0, _, _, _, H1.rdc0, ?_⟩
  refine H1.m4.mset (t := T_map_api_Key_api_Write) U_map_api_Key_api_Write KeyK k (⟨k, false, ⟨#[]⟩⟩ : Wr) rfl fun h2 H2 => kk h2 (setA_open.2 ⟨r1, r2, r3, ?_⟩)
  exact (H2.m1.tl).m3.m3.m3
theorem At_hs {s : Nat} {v : VS} (H : Hs h (setA s v :: L)) (kk : Q (.int .i64 v.at_) h) : SpecH PP F_valid_Set_At [.pointer (some ⟨s, 0, none⟩)] h Q := by
  obtain ⟨r1, r2, r3, H⟩ := setA_open.1 H
  exact valid_Set_At.door (br_false rfl ⟨_, H.cell (off := 0) rfl, kk⟩)
theorem Writes_hs {s : Nat} {v : VS} (hv : VI v) (hl : v.st.length ≤ 2 ^ 20) (H : Hs h (setA s v :: L)) (kk : ∀ h' a c (e : List Wr), e.Perm (v.st.map (·.2)) → Rise e → Hs h' (own a e.length c T_api_Write 5 (e.flatMap wrV) :: setA s v :: L) → Q (.slice a e.length c) h') :
    SpecH PP F_valid_Set_Writes [.pointer (some ⟨s, 0, none⟩)] h Q := by
  obtain ⟨r1, r2, r3, H⟩ := setA_open.1 H
  refine valid_Set_Writes.door (br_false rfl ?_)
  refine ⟨_, H.cell (off := 3) rfl, maps_Values_map_api_Key_api_Write_api_Key_api_Write.door ?_⟩
  dsimp only
  have H1 := H.new (t := T_map_api_Key_api_Write) (cs := #[.map (some r3)]) (xs := [.map (some r3)])
  refine ⟨_, rfl, Sorted_hs (r := r3) (l := v.st) hl H1.m4 fun h2 a c e p hs H2 => ⟨_, _, _, rfl, kk h2 a c e p ?_ ?_⟩⟩
  · have hnd : (v.st.map (·.1)).Nodup := (H1.m4).mp_nodup
    have hk : (v.st.map (·.2)).map (·.k) = v.st.map (·.1) := by
      rw [List.map_map]; exact List.map_congr_left fun x hx => hv.st x hx
    have hn2 : (e.map (·.k)).Nodup := by
      have := (p.map (·.k)).nodup_iff.2 (by rw [hk]; exact hnd)
      exact this
    unfold Rise
    rw [List.pairwise_iff_getElem] at hs ⊢
    intro i j hi hj hij
    have h1 := hs i j hi hj hij
    cases e2 : wlt e[i] e[j] with
    | true => rfl
    | false =>
      have e3 : e[i].k = e[j].k := klt_tri e2 h1
      exfalso
      have := List.pairwise_iff_getElem.1 hn2 i j (by simpa using hi) (by simpa using hj) hij
      simp only [List.getElem_map] at this
      exact this e3
  · refine (setA_open.2 ⟨r1, r2, r3, ?_⟩ : Hs h2 (setA s v :: own a e.length c T_api_Write 5 (e.flatMap wrV) :: L)).m1
    exact (H2.m2.tl).m1.m4.m4.m4
end Go.Proofs.Ytcdifhgocjjbpaa

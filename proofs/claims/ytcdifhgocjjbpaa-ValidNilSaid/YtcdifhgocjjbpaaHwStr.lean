/- Strings and their bytes. -/
import Derived.Test.YtcdifhgocjjbpaaHwDig
set_option linter.unusedVariables false
set_option linter.unusedSimpArgs false
namespace Go.HW
open Go

/-- A string's bytes. -/
def sb (s : ByteArray) : List Nat := s.data.toList.map UInt8.toNat
/-- The string of these bytes. -/
def st (l : List Nat) : ByteArray := ⟨(l.map UInt8.ofNat).toArray⟩
theorem sb_len (s : ByteArray) : (sb s).length = s.size := by rw [sb, List.length_map, Array.length_toList]; rfl
theorem sb_lt {s : ByteArray} {x : Nat} (h : x ∈ sb s) : x < 256 := by
  simp only [sb, List.mem_map] at h; obtain ⟨b, _, rfl⟩ := h; exact b.toNat_lt
theorem sb_inj {s t : ByteArray} (h : sb s = sb t) : s = t := by
  have : s.data.toList = t.data.toList := List.map_inj_right (f := UInt8.toNat) (fun x y e => UInt8.toNat_inj.1 e) |>.1 h
  exact ByteArray.ext (Array.toList_inj.1 this)
theorem sb_st {l : List Nat} (h : ∀ x ∈ l, x < 256) : sb (st l) = l := by
  simp only [sb, st, List.map_map]
  conv => rhs; rw [← List.map_id l]
  refine List.map_congr_left fun x hx => ?_
  simp [Nat.mod_eq_of_lt (h x hx)]
theorem st_sb (s : ByteArray) : st (sb s) = s := sb_inj (sb_st fun _ => sb_lt)
theorem st_size (l : List Nat) : (st l).size = l.length := by simp [st, ByteArray.size]
theorem sb_empty : sb ⟨#[]⟩ = [] := rfl
theorem strV_nV (s : ByteArray) : (s.data.toList.map fun b => Value.int .u8 (b.toNat : Int)) = nV (sb s) := by simp [nV, sb, Function.comp_def]
theorem sb_app (s t : ByteArray) : sb (s ++ t) = sb s ++ sb t := by simp [sb]
theorem sb_get (s : ByteArray) (i : Nat) (hi : i < s.size) : (sb s)[i]'(by rw [sb_len]; exact hi) = s[i].toNat := by simp [sb]; rfl

section
variable {h : Heap} {L : List Assn}
/-- A row of cells that is only read. -/
def rdO (a : Option Addr) (xs : List Value) : Assn := fun m => ∀ i v, xs[i]? = some v → ∃ b off cs t f, a = some ⟨b, off, none⟩ ∧ m b = some (.cells cs t f) ∧ cs[off + i]? = some v
theorem Hs.rdO {a : Option Addr} {xs : List Value} (H : Hs h (HW.rdO a xs :: L)) : Rd h a xs := H.fact fun m k s i v hv => by
  obtain ⟨b, off, cs, t, f, rfl, hm, hc⟩ := k i v hv
  exact ⟨_, rfl, by rw [add_mk]; exact cell_of (s _ _ hm) hc⟩
theorem Gv.rdO {a : Option Addr} {xs : List Value} : Gv (HW.rdO a xs :: L) a xs := fun h H => H.rdO
/-- A string's bytes in memory of their own. -/
theorem Hs.s2b {P : Program} {src dst e : TypeId} {s : ByteArray} {K : Value → Heap → Prop} (H : Hs h L) (hs : P.underlying src = some .string) (hd : P.underlying dst = some (.slice e)) (he : P.underlying e = some (.int .u8))
    (kk : ∀ h' a c, s.size ≤ c → Hs h' (HW.rdO (some a) (nV (sb s)) :: L) → K (.slice (some a) s.size c) h') : hwp P (Go.convert src dst (.string s)) K h := by
  unfold Go.convert
  refine (hwp_bind' _ _ _ _).2 ((hwp_underlying hs).2 ((hwp_bind' _ _ _ _).2 ((hwp_underlying hd).2 ?_)))
  refine (hwp_bind' _ _ _ _).2 ((hwp_underlying he).2 ?_)
  show hwp P (Conv.stringToBytes e s) K h
  unfold Conv.stringToBytes
  refine (hwp_bind' _ _ _ _).2 ?_
  show ∀ t, _
  intro t
  have hc : s.size ≤ (Question.appendCap s.size 0 e).cut t := by show s.size ≤ s.size + _; omega
  generalize (Question.appendCap s.size 0 e).cut t = c at hc ⊢
  refine (hwp_bind' _ _ _ _).2 ?_
  refine (hwp_bind' _ _ _ _).2 ?_
  generalize hcs : ((s.data.map fun b => Value.int .u8 (b.toNat : Int)) ++ Array.replicate (c - s.size) (Value.int .u8 0)) = cs
  have hsh : shapeH (h.push (.cells cs e (0, 0))) h.size = some (e, cs.size) := by
    unfold shapeH World.shape? wOf; simp
  show hwp P (markStringish ⟨h.size, 0, none⟩ >>= fun _ => pure (Value.slice (some ⟨h.size, 0, none⟩) s.size c)) K (h.push (.cells cs e (0, 0)))
  refine (hwp_bind' _ _ _ _).2 ?_
  unfold markStringish
  refine (hwp_bind' _ _ _ _).2 ?_
  show hwp P (match shapeH (h.push (.cells cs e (0, 0))) h.size with | some (_, n) => _ | _ => _) _ _
  rw [hsh]
  show K (.slice (some ⟨h.size, 0, none⟩) s.size c) (freezeH (h.push (.cells cs e (0, 0))) ⟨h.size, cs.size, none⟩ 1)
  have H1 : Hs (h.push (.cells cs e (0, 0))) (ob h.size (.cells cs e (0, 0)) :: L) := H.push _
  have hb : (freezeH (h.push (.cells cs e (0, 0))) ⟨h.size, cs.size, none⟩ 1)[h.size]? = some (.cells cs e (cs.size, cs.size + 1)) := by
    unfold freezeH World.freeze wOf
    rw [if_neg (by decide)]
    show (Array.modify _ _ _)[h.size]? = _
    rw [Array.getElem?_modify, if_pos rfl, get_push, if_pos rfl]; rfl
  have H2 := H1.chg (o' := .cells cs e (cs.size, cs.size + 1)) (fun j hj => freeze_other _ _ _ _ hj) hb
  refine kk _ _ _ hc (H2.mono fun m hm => ?_)
  intro i v hv
  refine ⟨h.size, 0, cs, e, _, rfl, hm, ?_⟩
  rw [← hcs, Nat.zero_add]
  have hi : i < s.size := by rw [← sb_len, ← nV_len]; exact (List.getElem?_eq_some_iff.1 hv).1
  rw [Array.getElem?_append_left (by rw [Array.size_map]; exact hi)]
  rw [← strV_nV] at hv
  rw [← Array.getElem?_toList, Array.toList_map]; exact hv
theorem loadCells_rd {P : Program} {a : Addr} {xs : List Value} {n : Nat} (hn : xs.length = n) (hr : Rd h (some a) xs) {K : Array Value → Heap → Prop} (H : K xs.toArray h) : hwp P (loadCells a n) K h := by
  refine loadCells_ok hn ?_ H
  have key : ∀ (ys : List Value) (i : Nat), (∀ (j : Nat) v, ys[j]? = some v → xs[i + j]? = some v) → rdCells h a i ys := by
    intro ys
    induction ys with
    | nil => exact fun _ _ => trivial
    | cons y ys ih =>
      intro i hy
      refine ⟨hr.cell (hy 0 y rfl), ih (i + 1) fun j v hj => ?_⟩
      have := hy (j + 1) v (by simpa using hj)
      rwa [show i + (j + 1) = i + 1 + j by omega] at this
  exact key xs 0 fun j v hj => by simpa using hj
/-- Bytes as a string. -/
theorem hwp_b2s {P : Program} {src dst e : TypeId} {a : Option Addr} {n c : Nat} {bs : List Nat} {K : Value → Heap → Prop} (hd : P.underlying dst = some .string) (hs : P.underlying src = some (.slice e)) (he : P.underlying e = some (.int .u8))
    (hr : Rd h a (nV bs)) (hn : bs.length = n) (hn0 : a = none → n = 0) (kk : K (.string (st bs)) h) : hwp P (Go.convert src dst (.slice a n c)) K h := by
  unfold Go.convert
  refine (hwp_bind' _ _ _ _).2 ((hwp_underlying hs).2 ((hwp_bind' _ _ _ _).2 ((hwp_underlying hd).2 ?_)))
  refine (hwp_bind' _ _ _ _).2 ((hwp_underlying he).2 ?_)
  show hwp P (Conv.bytesToString _) K h
  unfold Conv.bytesToString
  cases a with
  | none =>
    have h0 := hn0 rfl
    have : bs = [] := by cases bs with | nil => rfl | cons => simp at hn; omega
    subst this; exact kk
  | some a =>
    refine (hwp_bind' _ _ _ _).2 (loadCells_rd (by rw [nV_len]; exact hn) hr ?_)
    rw [← Array.forIn_toList]
    have key : ∀ (l : List Nat) (s : ByteArray) (K : ByteArray → Heap → Prop), K (s ++ st l) h → hwp P (forIn (nV l) s fun c r => do
        let .int .u8 n := c | stuck "bytesToString: byte expected"
        pure (ForInStep.yield (r.push (UInt8.ofNat n.toNat)))) K h := by
      intro l
      induction l with
      | nil =>
        intro s K hk
        have : s ++ st [] = s := by apply ByteArray.ext; simp [st]
        rw [this] at hk; exact hk
      | cons x l ih =>
        intro s K hk
        simp only [nV, List.map_cons, List.forIn_cons]
        refine (hwp_bind' _ _ _ _).2 ?_
        show hwp P (forIn (nV l) (s.push (UInt8.ofNat x)) _) K h
        refine ih _ K ?_
        have e : s.push (UInt8.ofNat x) ++ st l = s ++ st (x :: l) := by
          apply ByteArray.ext; simp [st, ByteArray.push]
        rw [e]; exact hk
    refine (hwp_bind' _ _ _ _).2 ?_
    have := key bs ByteArray.empty (fun s h => K (.string s) h) (by
      have : ByteArray.empty ++ st bs = st bs := by apply ByteArray.ext; simp [st]
      rw [this]; exact kk)
    exact this
/-- A byte of a string. -/
theorem hwp_sidx {P : Program} {t : TypeId} {s : ByteArray} {k : IntKind} {i : Nat} {K : Value → Heap → Prop} (ht : P.underlying t = some .string) (hi : i < s.size) (kk : K (.int .u8 ((sb s)[i]'(by rw [sb_len]; exact hi) : Nat)) h) : hwp P (Instr.index t (.string s) (.int k (i : Int))) K h := by
  unfold Instr.index
  refine (hwp_bind' _ _ _ _).2 ?_
  show hwp P (Go.underlying t >>= _) K h
  refine (hwp_bind' _ _ _ _).2 ((hwp_underlying ht).2 ?_)
  show hwp P (match (if (0 : Int) ≤ (i : Int) then s[(i : Int).toNat]? else none) with | some b => pure (.int .u8 b.toNat) | none => boundsPanic k i s.size .index) K h
  rw [if_pos (Int.natCast_nonneg _), Int.toNat_natCast, getElem?_pos s i hi]
  rw [sb_get s i hi] at kk
  exact kk
end
end Go.HW

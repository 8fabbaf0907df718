/- Texts of the proof, laid together: DERIVED: THE SHELF's CONTRACTS AT THIS DUMP, IN PLAIN WORDS (tools/lay-plain.mjs out of 'TryPick.lean', which tools/lay-shelf.mjs wrote): THE SAME DECLARATIONS UNDER THE SAME NAMES: 'import', 'namespace', 'open', 'def', 'theorem' AND NOTHING ELSE: no command of the shelf's: FOR A HAND-IN. Each laying: the table of numbers ('.._ren') and one theorem, a field a fact of the dump's own or the kernel's comparison; each contract: ONE APPLICATION.; slices.Sort of strings: the kit's contract as one over heaps.; Disks, plain.; A disk in memory; the small calls.; The names of a map, rising: maps.Keys, slices.Sorted.; The calls of a disk: New, Create, Append, Sync, Rename, Remove, SyncDir, Read, Names, Used, Steps, Stop.; The calls of a disk: Sync, Rename, Remove, SyncDir, Read, Names, Used, Append, Steps, Stop.; The calls of a disk: Used, Append, Names.; Crash.; Clone: a file is copied once.; Clone: the rounds.; Clone.; Read, with the room of what is told known.; The document's disk: names found, taken away, put in; changes; choices.; The document's disk in memory: rows of bytes that are only read, the small calls.; The document's disk: New, Create, Used, Append, Sync, Rename, Remove, SyncDir, Read, Names, Stop.; The document's disk: Used, Append, Sync, Rename, Remove, SyncDir, Read, Names, Stop.; The document's disk: Sync, Append, Clone.; The document's disk: Clone.; The document's disk: Crash.; Contracts of package haversackkeep: bytes.; Contracts of package haversackkeep: bytes lent and given back.; Chapter 09: texts held against each other, bytes spoiled, the document's examples.; Chapter 09: a call held against the document's; DiskNew. -/
import Derived.Shelf.Sort.Plain
import Derived.Shelf.Slices.In.SortNone
import Derived.Test.YtkogmkajhjmkeaaProg
import Derived.Test.YtkogmkajhjmkeaaP3
import Derived.Test.YtkogmkajhjmkeaaP2
namespace Go.Proofs
open Go.Shelf
def Try.lays190_ren : Go.Shelf.Ren := ⟨fun | 190 => 68 | 125 => 74 | 258 => 73 | 128 => 84 | 129 => 85 | 302 => 75 | 303 => 76 | 304 => 77 | 305 => 78 | 306 => 79 | 307 => 80 | 308 => 81 | 309 => 82 | 310 => 83 | 333 => 86 | 329 => 87 | 330 => 88 | 334 => 89 | 335 => 90 | 336 => 91 | 344 => 92 | n => n, fun | 31 => 45 | 9 => 9 | 3 => 3 | 46 => 106 | 0 => 0 | 51 => 117 | 53 => 119 | 4 => 4 | 183 => 109 | 182 => 108 | 131 => 114 | 5 => 5 | 218 => 120 | 222 => 124 | 228 => 126 | 229 => 127 | n => n, fun | n => n⟩
theorem Try.lays190 : Go.Proofs.Lays.n190 Try.prog Try.lays190_ren := {
  mixed := by kernel_rfl
  f125 := Try.func74.trans (congrArg some (by kernel_rfl))
  f128 := Try.func84.trans (congrArg some (by kernel_rfl))
  f129 := Try.func85.trans (congrArg some (by kernel_rfl))
  f190 := Try.func68.trans (congrArg some (by kernel_rfl))
  f258 := Try.func73.trans (congrArg some (by kernel_rfl))
  f302 := Try.func75.trans (congrArg some (by kernel_rfl))
  f303 := Try.func76.trans (congrArg some (by kernel_rfl))
  f304 := Try.func77.trans (congrArg some (by kernel_rfl))
  f305 := Try.func78.trans (congrArg some (by kernel_rfl))
  f306 := Try.func79.trans (congrArg some (by kernel_rfl))
  f307 := Try.func80.trans (congrArg some (by kernel_rfl))
  f308 := Try.func81.trans (congrArg some (by kernel_rfl))
  f309 := Try.func82.trans (congrArg some (by kernel_rfl))
  f310 := Try.func83.trans (congrArg some (by kernel_rfl))
  f329 := Try.func87.trans (congrArg some (by kernel_rfl))
  f330 := Try.func88.trans (congrArg some (by kernel_rfl))
  f333 := Try.func86.trans (congrArg some (by kernel_rfl))
  f334 := Try.func89.trans (congrArg some (by kernel_rfl))
  f335 := Try.func90.trans (congrArg some (by kernel_rfl))
  f336 := Try.func91.trans (congrArg some (by kernel_rfl))
  f344 := Try.func92.trans (congrArg some (by kernel_rfl))
  t0 := Try.underlying0
  a0 := Try.isAgg0
  z0 := Try.sizeOf0
  v0 := Try.zeroValue0
  t3 := Try.underlying3
  a3 := Try.isAgg3
  z3 := Try.sizeOf3
  v3 := Try.zeroValue3
  t4 := Try.underlying4
  a4 := Try.isAgg4
  z4 := Try.sizeOf4
  v4 := Try.zeroValue4
  t5 := Try.underlying5
  a5 := Try.isAgg5
  z5 := Try.sizeOf5
  v5 := Try.zeroValue5
  t9 := Try.underlying9
  a9 := Try.isAgg9
  z9 := Try.sizeOf9
  v9 := Try.zeroValue9
  t31 := Try.underlying45
  a31 := Try.isAgg45
  z31 := Try.sizeOf45
  v31 := Try.zeroValue45
  t46 := Try.underlying106
  a46 := Try.isAgg106
  z46 := Try.sizeOf106
  v46 := Try.zeroValue106
  t51 := Try.underlying117
  a51 := Try.isAgg117
  z51 := Try.sizeOf117
  v51 := Try.zeroValue117
  t53 := Try.underlying119
  a53 := Try.isAgg119
  z53 := Try.sizeOf119
  v53 := Try.zeroValue119
  t131 := Try.underlying114
  a131 := Try.isAgg114
  z131 := Try.sizeOf114
  v131 := Try.zeroValue114
  t182 := Try.underlying108
  a182 := Try.isAgg108
  z182 := Try.sizeOf108
  v182 := Try.zeroValue108
  t183 := Try.underlying109
  a183 := Try.isAgg109
  z183 := Try.sizeOf109
  v183 := Try.zeroValue109
  t218 := Try.underlying120
  a218 := Try.isAgg120
  z218 := Try.sizeOf120
  v218 := Try.zeroValue120
  t222 := Try.underlying124
  a222 := Try.isAgg124
  z222 := Try.sizeOf124
  v222 := Try.zeroValue124
  t228 := Try.underlying126
  a228 := Try.isAgg126
  z228 := Try.sizeOf126
  v228 := Try.zeroValue126
  t229 := Try.underlying127
  a229 := Try.isAgg127
  z229 := Try.sizeOf127
  v229 := Try.zeroValue127 }
open Go.Sort Go.RowKit in
theorem Try.slices_Sort_string (blk off cap : Nat) (ss : List (List UInt8)) (w : World) (hH : Holds encStr w blk off ss.toArray) (hblk : blk < w.heap.size) (hsz : ss.length < 4611686018427387904) :
    Calls Try.prog 68 #[.slice (some ⟨blk, off, none⟩) ss.length cap] w fun e w' =>
      e = .returned (.tuple #[]) ∧ ∃ n os, w' = grow (putRow encStr (Sort.ahead w n) blk off (ss.mergeSort fun x y => decide (x ≤ y)).toArray) os := Any.slices_Sort_string Try.lays190 blk off cap ss w hH hblk hsz
open Go.RowKit Go.Sort in
/-- .. and plain. (LAID: no walk: one application.) -/
theorem Try.slices_Sort_string_none (p : Option Addr) (cap : Nat) (w : World) :
    Calls Try.prog 68 #[.slice p 0 cap] w fun e w' => e = .returned (.tuple #[]) ∧ w' = w := Any.slices_Sort_string_none Try.lays190 p cap w
end Go.Proofs

set_option maxRecDepth 20000
set_option linter.unusedVariables false
set_option linter.unusedSimpArgs false
namespace Go.Proofs.Ytkogmkajhjmkeaa
open Go Go.HW
variable {h : Heap} {L : List Assn} {Q : Value → Heap → Prop}
theorem sort_hs {a : OA} {n c : Nat} {l : List ByteArray} (hl : l.length = n) (hm : n < 2 ^ 40) (H : Hs h (own a n c T_string 1 (l.map Value.string) :: L))
    (kk : ∀ h' (l' : List ByteArray), l'.Perm l → l'.Pairwise (fun x y => strLt y x = false) → Hs h' (own a n c T_string 1 (l'.map Value.string) :: L) → Q (.tuple #[]) h') : SpecH PP F_slices_Sort_string_string [.slice a n c] h Q := by
  by_cases h0 : n = 0
  · subst h0
    have : l = [] := List.length_eq_zero_iff.1 hl
    subst this
    intro w hw
    refine (Try.slices_Sort_string_none a c w).mono ?_
    rintro e w' ⟨rfl, rfl⟩
    refine ⟨_, rfl, .refl _, ?_⟩
    rw [hw]; exact kk h [] (.refl _) .nil H
  · have hle := H.own_le
    obtain ⟨b, off, ys, rfl, hc1, hx1, H1⟩ := H.own_pt (by omega)
    rw [Nat.mul_one] at hc1 hx1
    intro w hw
    have hg := H1.get
    let ss : List (List UInt8) := l.map fun s => s.data.toList
    have hss : ss.length = n := by simp [ss, hl]
    have henc : ∀ s : ByteArray, Go.Proofs.encStr s.data.toList = Value.string s := fun s => rfl
    have hmap : ss.map Go.Proofs.encStr = l.map Value.string := by
      simp only [ss, List.map_map]
      exact List.map_congr_left fun s _ => henc s
    have hget : ∀ j (hj : j < n), ys[off + j]? = some (Go.Proofs.encStr (ss[j]'(by omega))) := by
      intro j hj
      have h1 : (l.map Value.string)[j]? = ((ys.drop off).take n)[j]? := by rw [← hx1]
      rw [List.getElem?_take_of_lt hj, List.getElem?_drop, ← hmap, List.getElem?_map, List.getElem?_eq_getElem (by omega)] at h1
      rw [← h1]; rfl
    have hH : Sort.Holds Go.Proofs.encStr w b off ss.toArray := by
      intro j hj
      have hj : j < n := by simpa [hss] using hj
      have e := hget j hj
      constructor
      · unfold World.cell?
        show (match w.heap[b]? with | some (.cells c _ _) => if (none : Option _).isSome then none else c[off + j]? | _ => none) = _
        rw [hw, hg]
        show ys.toArray[off + j]? = _
        rw [List.getElem?_toArray, e, getElem!_pos _ _ (by simp; omega)]
        simp
      · unfold World.frozen?
        show (match w.heap[b]? with | some (.cells _ _ (lo, hi)) => decide (lo ≤ off + j) && decide (off + j < hi) | _ => false) = false
        rw [hw, hg]; simp
    have hb : b < w.heap.size := by rw [hw]; exact (Array.getElem?_eq_some_iff.1 hg).1
    have hsort := Try.slices_Sort_string b off c ss w hH hb (by omega)
    rw [hss] at hsort
    refine hsort.mono ?_
    rintro e w' ⟨rfl, m, os, rfl⟩
    generalize hts : (ss.mergeSort fun x y => decide (x ≤ y)) = ts
    have hperm : ts.Perm ss := by rw [← hts]; exact List.mergeSort_perm _ _
    have hord : ts.Pairwise fun x y => decide (x ≤ y) = true := by
      rw [← hts]
      refine List.pairwise_mergeSort (fun a b c h1 h2 => ?_) (fun a b => ?_) ss
      · simp only [decide_eq_true_eq] at *; exact List.le_trans h1 h2
      · simpa using List.le_total a b
    have htl : ts.length = n := by rw [hperm.length_eq, hss]
    have hmod : (Sort.putRow Go.Proofs.encStr (Sort.ahead w m) b off ts.toArray).heap = h.modify b (Sort.onCells (Sort.putCells Go.Proofs.encStr off ts.toArray)) := by
      rw [← hw]; rfl
    have hnew : (h.modify b (Sort.onCells (Sort.putCells Go.Proofs.encStr off ts.toArray)))[b]? = some (.cells (Sort.putCells Go.Proofs.encStr off ts.toArray ys.toArray) T_string (0, 0)) := by
      rw [Array.getElem?_modify, if_pos rfl, hg]; rfl
    have H2 : Hs (h.modify b (Sort.onCells (Sort.putCells Go.Proofs.encStr off ts.toArray))) (pt b T_string (Sort.putCells Go.Proofs.encStr off ts.toArray ys.toArray).toList :: L) := by
      refine Hs.chg H1 (fun j hj => ?_) hnew
      rw [Array.getElem?_modify, if_neg hj]
    have hx : Ext (h.modify b (Sort.onCells (Sort.putCells Go.Proofs.encStr off ts.toArray))) ((h.modify b (Sort.onCells (Sort.putCells Go.Proofs.encStr off ts.toArray))) ++ os) := fun i o e => by
      rw [Array.getElem?_append_left (Array.getElem?_eq_some_iff.1 e).1]; exact e
    have H3 := H2.ext hx
    have hw' : (Sort.grow (Sort.putRow Go.Proofs.encStr (Sort.ahead w m) b off ts.toArray) os).heap = h.modify b (Sort.onCells (Sort.putCells Go.Proofs.encStr off ts.toArray)) ++ os := by
      rw [← hmod]; rfl
    refine ⟨_, rfl, ⟨rfl, rfl, rfl, ?_, ?_⟩, ?_⟩
    · intro i o e d
      rw [hw', Array.getElem?_append_left (by rw [Array.size_modify]; rw [hw] at e; exact (Array.getElem?_eq_some_iff.1 e).1), Array.getElem?_modify]
      rw [hw] at e
      by_cases q : b = i
      · subst q; rw [hg] at e; cases e; cases d
      · rw [if_neg q]; exact e
    · rw [hw', hw]; simp
    · rw [hw']
      refine kk _ (ts.map fun u => (⟨u.toArray⟩ : ByteArray)) ?_ ?_ (H3.pt_own (n := n) (c := c) off ?_ ?_ hle ?_)
      · have := hperm.map fun u : List UInt8 => (⟨u.toArray⟩ : ByteArray)
        have e : ss.map (fun u : List UInt8 => (⟨u.toArray⟩ : ByteArray)) = l := by
          simp only [ss, List.map_map]
          exact (List.map_congr_left fun s _ => by rfl).trans (List.map_id l)
        rw [e] at this; exact this
      · rw [List.pairwise_map]
        refine hord.imp fun {x y} q => ?_
        have q : x ≤ y := of_decide_eq_true q
        rw [slt_eq]
        simpa using q
      · rw [Nat.mul_one]
        refine List.ext_getElem? fun j => ?_
        by_cases hj : j < n
        · have e2 : (Sort.putCells Go.Proofs.encStr off ts.toArray ys.toArray).toList[off + j]? = some (Value.string ⟨(ts[j]'(by omega)).toArray⟩) := by
            rw [Array.getElem?_toList]
            unfold Sort.putCells
            rw [Array.getElem?_mapIdx, List.getElem?_toArray, hget j hj, Option.map_some, if_pos ⟨by omega, by simp; omega⟩]
            rw [show off + j - off = j by omega, getElem!_pos _ _ (by simp; omega)]
            simp
          rw [List.getElem?_take_of_lt hj, List.getElem?_drop, e2, List.getElem?_map, List.getElem?_map, List.getElem?_eq_getElem (by omega)]
          rfl
        · rw [List.getElem?_eq_none (by simp; omega), List.getElem?_eq_none (by simp; omega)]
      · simp; omega
      · unfold Sort.putCells; simp; omega
end Go.Proofs.Ytkogmkajhjmkeaa

set_option linter.unusedVariables false
set_option linter.unusedSimpArgs false
namespace Go.Proofs.Ytkogmkajhjmkeaa
open Go Go.HW
abbrev Nm := ByteArray
abbrev e0 : ByteArray := ⟨#[]⟩
structure Fil where
  bs : List Nat
  safe : Nat
structure Chg where
  fr : Nm
  to : Nm
  f : Nat
/-- What a disk is. -/
structure DS where
  room : Nat
  files : List Fil
  now : List (Nm × Nat)
  safe : List (Nm × Nat)
  chg : List Chg
  steps : Nat
  left : Option Nat
def fil0 : Fil := ⟨[], 0⟩
def Ris (l : List (Nm × Nat)) : Prop := l.Pairwise fun x y => strLt x.1 y.1 = true
def ins : List (Nm × Nat) → Nm × Nat → List (Nm × Nat)
  | [], x => [x]
  | y :: l, x => if strLt y.1 x.1 then y :: ins l x else x :: y :: l
/-- A change, done to names. -/
def ap (l : List (Nm × Nat)) (c : Chg) : List (Nm × Nat) :=
  let l1 := if c.fr = e0 then l else mdel l c.fr
  if c.to = e0 then l1 else ins (mdel l1 c.to) (c.to, c.f)
def aps (l : List (Nm × Nat)) (cs : List Chg) : List (Nm × Nat) := cs.foldl ap l
theorem ins_perm (l : List (Nm × Nat)) (x : Nm × Nat) : (ins l x).Perm (x :: l) := by
  induction l with
  | nil => exact .refl _
  | cons y l ih =>
    unfold ins
    split
    · exact (ih.cons y).trans (.swap ..)
    · exact .refl _
theorem mem_ins {l : List (Nm × Nat)} {x y : Nm × Nat} : y ∈ ins l x ↔ y = x ∨ y ∈ l := by rw [(ins_perm l x).mem_iff, List.mem_cons]
theorem Ris.ins {l : List (Nm × Nat)} {x : Nm × Nat} (h : Ris l) (hx : ∀ y ∈ l, y.1 ≠ x.1) : Ris (ins l x) := by
  induction l with
  | nil => exact List.pairwise_singleton ..
  | cons y l ih =>
    have h' := List.pairwise_cons.1 h
    have hyx := hx y (List.mem_cons_self ..)
    have hx' := fun z hz => hx z (List.mem_cons_of_mem _ hz)
    unfold Go.Proofs.Ytkogmkajhjmkeaa.ins
    split
    · rename_i e
      refine List.pairwise_cons.2 ⟨fun z hz => ?_, ih h'.2 hx'⟩
      rcases mem_ins.1 hz with rfl | hz
      · exact e
      · exact h'.1 z hz
    · rename_i e
      have e2 : strLt x.1 y.1 = true := by
        cases q : strLt x.1 y.1 with
        | true => rfl
        | false => exact absurd (slt_tri (by simpa using e) q) hyx
      refine List.pairwise_cons.2 ⟨fun z hz => ?_, h⟩
      rcases List.mem_cons.1 hz with rfl | hz
      · exact e2
      · exact slt_trans e2 (h'.1 z hz)
theorem mdel_sub {α β : Type} [DecidableEq α] (l : List (α × β)) (k : α) : (mdel l k).Sublist l := List.filter_sublist
theorem mem_mdel {α β : Type} [DecidableEq α] {l : List (α × β)} {k : α} {x : α × β} : x ∈ mdel l k ↔ x ∈ l ∧ x.1 ≠ k := by
  unfold mdel; rw [List.mem_filter]; simp
theorem Ris.mdel {l : List (Nm × Nat)} (h : Ris l) (k : Nm) : Ris (mdel l k) := h.sublist (mdel_sub ..)
theorem Ris.ap {l : List (Nm × Nat)} (h : Ris l) (c : Chg) : Ris (ap l c) := by
  unfold Go.Proofs.Ytkogmkajhjmkeaa.ap
  have h1 : Ris (if c.fr = e0 then l else HW.mdel l c.fr) := by split; exact h; exact h.mdel _
  dsimp only
  split
  · exact h1
  · exact (h1.mdel _).ins fun y hy => (mem_mdel.1 hy).2
theorem Ris.aps {cs : List Chg} : ∀ {l : List (Nm × Nat)}, Ris l → Ris (aps l cs) := by
  induction cs with
  | nil => exact fun h => h
  | cons c cs ih => exact fun h => ih (h.ap c)
theorem mem_ap {l : List (Nm × Nat)} {c : Chg} {x : Nm × Nat} (h : x ∈ ap l c) : x ∈ l ∨ (c.to ≠ e0 ∧ x = (c.to, c.f)) := by
  have hd : ∀ y, y ∈ (if c.fr = e0 then l else mdel l c.fr) → y ∈ l := fun y hy => by
    split at hy
    · exact hy
    · exact (mem_mdel.1 hy).1
  unfold ap at h
  dsimp only at h
  split at h
  · exact .inl (hd _ h)
  · rename_i e
    rcases mem_ins.1 h with q | q
    · exact .inr ⟨e, q⟩
    · exact .inl (hd _ (mem_mdel.1 q).1)
theorem mem_aps {cs : List Chg} : ∀ {l : List (Nm × Nat)} {x : Nm × Nat}, x ∈ aps l cs → x ∈ l ∨ ∃ c ∈ cs, c.to ≠ e0 ∧ x = (c.to, c.f) := by
  induction cs with
  | nil => exact fun h => .inl h
  | cons c cs ih =>
    intro l x h
    rcases ih (l := ap l c) h with q | ⟨c', h1, h2⟩
    · rcases mem_ap q with q | q
      · exact .inl q
      · exact .inr ⟨c, List.mem_cons_self .., q⟩
    · exact .inr ⟨c', List.mem_cons_of_mem _ h1, h2⟩
theorem aps_snoc (l : List (Nm × Nat)) (cs : List Chg) (c : Chg) : aps l (cs ++ [c]) = ap (aps l cs) c := by unfold aps; rw [List.foldl_append]; rfl
theorem Ris.nodup {l : List (Nm × Nat)} (h : Ris l) : (l.map (·.1)).Nodup := by
  rw [List.nodup_iff_pairwise_ne, List.pairwise_map]
  exact h.imp fun h e => by rw [e, slt_irrefl] at h; cases h
/-! ### The calls -/
def gch (c : Nat) : Bool := (97 ≤ c && c ≤ 122) || (48 ≤ c && c ≤ 57) || c == 46 || c == 45
def good (n : Nm) : Bool := (sb n).all gch && decide (n ≠ e0) && decide (n.size ≤ 32)
def DS.fl (d : DS) (i : Nat) : Fil := (d.files[i]?).getD fil0
def DS.tick (d : DS) : DS := { d with steps := d.steps + 1, left := d.left.map (· - 1) }
def DS.down (d : DS) : Bool := decide (d.left = some 0)
def DS.change (d : DS) (c : Chg) : DS := DS.tick { d with now := ap d.now c, chg := d.chg ++ [c] }
def DS.find (d : DS) (n : Nm) : Option Nat := mget d.now n
def dnew (room : Nat) : DS := ⟨room, [], [], [], [], 0, none⟩
def DS.create (d : DS) (n : Nm) : DS × Int :=
  if d.down then (d, 94) else if good n = false then (d, 90) else if (d.find n).isSome then (d, 91) else if 64 ≤ d.now.length then (d, 95)
  else (DS.change { d with files := d.files ++ [fil0] } ⟨e0, n, d.files.length⟩, 0)
def sumL (d : DS) (l : List (Nm × Nat)) : Nat := (l.map fun x => (d.fl x.2).bs.length).sum
def DS.used (d : DS) : Nat := if d.down then 0 else sumL d d.now
def DS.append (d : DS) (n : Nm) (b : List Nat) : DS × Int :=
  if d.down then (d, 94) else match d.find n with
  | none => (d, 92)
  | some i => if (d.room : Int) - d.used < b.length then (d, 93) else (DS.tick { d with files := d.files.set i ⟨(d.fl i).bs ++ b, (d.fl i).safe⟩ }, 0)
def DS.sync (d : DS) (n : Nm) : DS × Int :=
  if d.down then (d, 94) else match d.find n with
  | none => (d, 92)
  | some i => (DS.tick { d with files := d.files.set i ⟨(d.fl i).bs, (d.fl i).bs.length⟩ }, 0)
def DS.rename (d : DS) (n m : Nm) : DS × Int :=
  if d.down then (d, 94) else match d.find n with
  | none => (d, 92)
  | some i => if good m = false then (d, 90) else (d.change ⟨n, m, i⟩, 0)
def DS.remove (d : DS) (n : Nm) : DS × Int :=
  if d.down then (d, 94) else match d.find n with
  | none => (d, 92)
  | some i => (d.change ⟨n, e0, 0⟩, 0)
def DS.syncdir (d : DS) : DS × Int := if d.down then (d, 94) else (DS.tick { d with safe := d.now, chg := [] }, 0)
def DS.read (d : DS) (n : Nm) : List Nat × Int :=
  if d.down then ([], 94) else match d.find n with
  | none => ([], 92)
  | some i => ((d.fl i).bs, 0)
def DS.names (d : DS) : List Nm := if d.down then [] else d.now.map (·.1)
def DS.stop (d : DS) (n : Int) : DS × Int := if d.down then (d, 94) else if n < 0 then (d, 1) else ({ d with left := some n.toNat }, 0)
def says (c : Int) (n : Nat) : Nat := ((if c < 0 then -(c + 1) else c) % ((n : Int) + 1)).toNat
def cut (c : Int) (f : Fil) : Fil :=
  let b := f.bs.take (f.safe + says c (f.bs.length - f.safe))
  let b' := if c < 0 then b.take f.safe ++ List.replicate (b.length - f.safe) 0 else b
  ⟨b', b'.length⟩
def cutAll (cs : List Int) : Nat → List (Nm × Nat) → List Fil → List Fil
  | _, [], fs => fs
  | j, x :: l, fs => cutAll cs (j + 1) l (fs.set x.2 (cut (cs.getD j 0) (fs[x.2]?.getD fil0)))
def DS.crash (d : DS) (cs : List Int) : DS :=
  let m := aps d.safe (d.chg.take (says (cs.getD 0 0) d.chg.length))
  { d with left := none, now := m, safe := m, chg := [], files := cutAll cs 1 m d.files }
/-! ### What is always so -/
structure ChgOk (n : Nat) (c : Chg) : Prop where
  one : c.fr ≠ e0 ∨ c.to ≠ e0
  lt : c.to ≠ e0 → c.f < n
  z : c.to = e0 → c.f = 0
structure DI (d : DS) : Prop where
  room : 1 ≤ d.room ∧ d.room ≤ 4194304
  ris : Ris d.safe
  now : d.now = aps d.safe d.chg
  inj : ∀ k, ((aps d.safe (d.chg.take k)).map (·.2)).Nodup
  ix : ∀ x ∈ d.safe, x.1 ≠ e0 ∧ x.2 < d.files.length
  wf : ∀ c ∈ d.chg, ChgOk d.files.length c
  fil : ∀ f ∈ d.files, f.safe ≤ f.bs.length ∧ f.bs.length ≤ 4194304
  fl : d.files.length ≤ d.steps
  cl : d.chg.length ≤ d.steps
  lf : ∀ n, d.left = some n → n < 2 ^ 63
section
variable {d : DS}
theorem DI.ixs (h : DI d) (k : Nat) : ∀ x ∈ aps d.safe (d.chg.take k), x.1 ≠ e0 ∧ x.2 < d.files.length := by
  intro x hx
  rcases mem_aps hx with q | ⟨c, hc, h1, rfl⟩
  · exact h.ix x q
  · exact ⟨h1, (h.wf c (List.mem_of_mem_take hc)).lt h1⟩
theorem DI.all (h : DI d) : aps d.safe (d.chg.take d.chg.length) = d.now := by rw [List.take_length, ← h.now]
theorem DI.ixn (h : DI d) : ∀ x ∈ d.now, x.1 ≠ e0 ∧ x.2 < d.files.length := by have := h.ixs d.chg.length; rwa [h.all] at this
theorem DI.injn (h : DI d) : (d.now.map (·.2)).Nodup := by have := h.inj d.chg.length; rwa [h.all] at this
theorem DI.risn (h : DI d) : Ris d.now := by rw [h.now]; exact h.ris.aps
theorem DI.keys (h : DI d) : (d.now.map (·.1)).Nodup := h.risn.nodup
theorem DI.find_lt (h : DI d) {n : Nm} {i : Nat} (e : d.find n = some i) : i < d.files.length := (h.ixn _ (mget_mem e)).2
theorem DI.find_ne (h : DI d) {n : Nm} {i : Nat} (e : d.find n = some i) : n ≠ e0 := (h.ixn _ (mget_mem e)).1
theorem fl_eq {i : Nat} (hi : i < d.files.length) : d.files[i]? = some (d.fl i) := by unfold DS.fl; rw [List.getElem?_eq_getElem hi]; rfl
theorem DI.fl_ok (h : DI d) (i : Nat) : (d.fl i).safe ≤ (d.fl i).bs.length ∧ (d.fl i).bs.length ≤ 4194304 := by
  by_cases hi : i < d.files.length
  · exact h.fil _ (List.mem_of_getElem? (fl_eq hi))
  · unfold DS.fl; rw [List.getElem?_eq_none (by omega)]; exact ⟨Nat.le_refl _, by simp [fil0]⟩
theorem nodup_bound : ∀ (n : Nat) (l : List Nat), l.Nodup → (∀ i ∈ l, i < n) → l.length ≤ n := by
  intro n l hn hl
  have := (List.nodup_range (n := n)).length_le_of_subset (l₂ := l)
  have h2 := hn.length_le_of_subset (l₂ := List.range n) fun i hi => List.mem_range.2 (hl i hi)
  simpa using h2
theorem DI.len (h : DI d) (k : Nat) : (aps d.safe (d.chg.take k)).length ≤ d.files.length := by
  have := nodup_bound d.files.length _ (h.inj k) fun i hi => by
    obtain ⟨x, hx, rfl⟩ := List.mem_map.1 hi
    exact (h.ixs k x hx).2
  simpa using this
theorem DI.lenn (h : DI d) : d.now.length ≤ d.files.length := by have := h.len d.chg.length; rwa [h.all] at this
theorem DI.tick (h : DI d) : DI d.tick := ⟨h.room, h.ris, h.now, h.inj, h.ix, h.wf, h.fil, Nat.le_succ_of_le h.fl, Nat.le_succ_of_le h.cl, fun n e => by
  cases e2 : d.left with
  | none => simp [DS.tick, e2] at e
  | some m => have := h.lf m e2; simp [DS.tick, e2] at e; omega⟩
theorem di_new {room : Nat} (h : 1 ≤ room ∧ room ≤ 4194304) : DI (dnew room) := ⟨h, .nil, rfl, fun k => by simp [dnew, aps], nofun, nofun, nofun, Nat.le_refl _, Nat.le_refl _, nofun⟩
theorem nodup_map_ap {l : List (Nm × Nat)} {c : Chg} (h : (l.map (·.2)).Nodup) (hc : c.to ≠ e0 → ∀ x ∈ l, x.2 = c.f → c.fr ≠ e0 ∧ x.1 = c.fr) : ((ap l c).map (·.2)).Nodup := by
  unfold ap
  dsimp only
  have h1 : ((if c.fr = e0 then l else mdel l c.fr).map (·.2)).Nodup := by
    split
    · exact h
    · exact h.sublist ((mdel_sub l c.fr).map _)
  split
  · exact h1
  · rename_i e
    rw [((ins_perm _ _).map _).nodup_iff, List.map_cons, List.nodup_cons]
    refine ⟨fun q => ?_, h1.sublist ((mdel_sub _ c.to).map _)⟩
    obtain ⟨x, hx, hx2⟩ := List.mem_map.1 q
    have hx := (mem_mdel.1 hx).1
    split at hx
    · rename_i e3; exact (hc e x hx hx2).1 e3
    · have hx := mem_mdel.1 hx
      exact hx.2 (hc e x hx.1 hx2).2
theorem DI.change' {fs : List Fil} {c : Chg} (h : DI d) (hf : d.files.length ≤ fs.length) (hs : fs.length ≤ d.steps + 1) (hfs : ∀ f ∈ fs, f.safe ≤ f.bs.length ∧ f.bs.length ≤ 4194304) (hw : ChgOk fs.length c)
    (hc : c.to ≠ e0 → ∀ x ∈ d.now, x.2 = c.f → c.fr ≠ e0 ∧ x.1 = c.fr) : DI (DS.change { d with files := fs } c) := by
  have hn : aps d.safe (d.chg ++ [c]) = ap d.now c := by rw [aps_snoc, ← h.now]
  refine ⟨h.room, h.ris, hn.symm, fun k => ?_, fun x hx => ⟨(h.ix x hx).1, Nat.lt_of_lt_of_le (h.ix x hx).2 hf⟩, fun c' hc' => ?_, hfs, hs, ?_, ?_⟩
  · show ((aps d.safe ((d.chg ++ [c]).take k)).map (·.2)).Nodup
    by_cases hk : k ≤ d.chg.length
    · rw [List.take_append_of_le_length hk]; exact h.inj k
    · rw [List.take_of_length_le (by simp; omega), hn]
      exact nodup_map_ap h.injn hc
  · rcases List.mem_append.1 hc' with q | q
    · have := h.wf c' q
      exact ⟨this.one, fun e => Nat.lt_of_lt_of_le (this.lt e) hf, this.z⟩
    · rw [List.mem_singleton.1 q]; exact hw
  · show (d.chg ++ [c]).length ≤ d.steps + 1
    have := h.cl
    simp; exact this
  · exact h.tick.lf
theorem DI.create (h : DI d) (n : Nm) : DI (d.create n).1 := by
  unfold DS.create
  split
  · exact h
  split
  · exact h
  split
  · exact h
  split
  · exact h
  rename_i h1 h2 h3 h4
  have hg : good n = true := by simpa using h2
  have hne : n ≠ e0 := by unfold good at hg; simp at hg; exact hg.1.2
  refine h.change' (by simp) (by have := h.fl; simp; exact this) (fun f hf => ?_) ⟨.inr hne, fun _ => by simp, fun e => absurd e hne⟩ (fun _ x hx e => ?_)
  · rcases List.mem_append.1 hf with q | q
    · exact h.fil f q
    · rw [List.mem_singleton.1 q]; simp [fil0]
  · have := (h.ixn x hx).2
    have e : x.2 = d.files.length := e
    omega
theorem inj_val {l : List (Nm × Nat)} (h : (l.map (·.2)).Nodup) {x y : Nm × Nat} (hx : x ∈ l) (hy : y ∈ l) (e : x.2 = y.2) : x = y := by
  induction l with
  | nil => cases hx
  | cons z l ih =>
    rw [List.map_cons, List.nodup_cons] at h
    rcases List.mem_cons.1 hx with q | q <;> rcases List.mem_cons.1 hy with r | r
    · rw [q, r]
    · subst q; exact absurd (e ▸ List.mem_map_of_mem r) h.1
    · subst r; exact absurd (e ▸ List.mem_map_of_mem q) h.1
    · exact ih h.2 q r
theorem DI.rename (h : DI d) (n m : Nm) : DI (d.rename n m).1 := by
  unfold DS.rename
  split
  · exact h
  split
  · exact h
  · rename_i i e
    split
    · exact h
    rename_i hg
    have hg : good m = true := by simpa using hg
    have hne : m ≠ e0 := by unfold good at hg; simp at hg; exact hg.1.2
    refine h.change' (fs := d.files) (Nat.le_refl _) (Nat.le_succ_of_le h.fl) h.fil ⟨.inr hne, fun _ => h.find_lt e, fun q => absurd q hne⟩ (fun _ x hx e2 => ⟨h.find_ne e, ?_⟩)
    rw [inj_val h.injn hx (mget_mem e) e2]
theorem DI.remove (h : DI d) (n : Nm) : DI (d.remove n).1 := by
  unfold DS.remove
  split
  · exact h
  split
  · exact h
  · rename_i i e
    exact h.change' (fs := d.files) (Nat.le_refl _) (Nat.le_succ_of_le h.fl) h.fil ⟨.inl (h.find_ne e), fun q => absurd rfl q, fun _ => rfl⟩ (fun q => absurd rfl q)
theorem DI.syncdir (h : DI d) : DI d.syncdir.1 := by
  unfold DS.syncdir
  split
  · exact h
  · refine DI.tick (d := { d with safe := d.now, chg := [] }) ⟨h.room, h.risn, rfl, fun k => ?_, h.ixn, nofun, h.fil, h.fl, Nat.zero_le _, h.lf⟩
    simp only [List.take_nil]
    exact h.injn
theorem DI.setf (h : DI d) {i : Nat} {f : Fil} (hf : f.safe ≤ f.bs.length ∧ f.bs.length ≤ 4194304) : DI { d with files := d.files.set i f } :=
  ⟨h.room, h.ris, h.now, h.inj, by simpa using h.ix, by simpa using h.wf, fun g hg => by
    rcases List.mem_or_eq_of_mem_set hg with q | rfl
    · exact h.fil g q
    · exact hf, by simpa using h.fl, h.cl, h.lf⟩
theorem sum_mem {l : List Nat} {x : Nat} (h : x ∈ l) : x ≤ l.sum := by
  induction l with
  | nil => cases h
  | cons y l ih =>
    rw [List.sum_cons]
    rcases List.mem_cons.1 h with rfl | h
    · omega
    · have := ih h; omega
theorem DI.append (h : DI d) (n : Nm) (b : List Nat) : DI (d.append n b).1 := by
  unfold DS.append
  split
  · exact h
  rename_i hd
  split
  · exact h
  · rename_i i e
    split
    · exact h
    · rename_i hb
      refine (h.setf ⟨?_, ?_⟩).tick
      · have := (h.fl_ok i).1; simp; omega
      · have hu : d.used = sumL d d.now := by unfold DS.used; rw [if_neg hd]
        have h1 : (d.fl i).bs.length ≤ sumL d d.now := sum_mem (List.mem_map.2 ⟨(n, i), mget_mem e, rfl⟩)
        have := h.room
        simp; omega
theorem DI.sync (h : DI d) (n : Nm) : DI (d.sync n).1 := by
  unfold DS.sync
  split
  · exact h
  split
  · exact h
  · rename_i i e
    exact (h.setf (f := ⟨(d.fl i).bs, (d.fl i).bs.length⟩) ⟨Nat.le_refl _, (h.fl_ok i).2⟩).tick
theorem DI.stop (h : DI d) {n : Int} (hn : n < 2 ^ 63) : DI (d.stop n).1 := by
  unfold DS.stop
  split
  · exact h
  split
  · exact h
  · exact ⟨h.room, h.ris, h.now, h.inj, h.ix, h.wf, h.fil, h.fl, h.cl, fun m e => by cases e; omega⟩
theorem cut_ok {f : Fil} (c : Int) (h : f.safe ≤ f.bs.length ∧ f.bs.length ≤ 4194304) : (cut c f).safe ≤ (cut c f).bs.length ∧ (cut c f).bs.length ≤ 4194304 := by
  refine ⟨Nat.le_refl _, ?_⟩
  unfold cut
  dsimp only
  split
  · simp; omega
  · simp; omega
theorem cutAll_len (cs : List Int) : ∀ (l : List (Nm × Nat)) (j : Nat) (fs : List Fil), (cutAll cs j l fs).length = fs.length := by
  intro l
  induction l with
  | nil => exact fun _ _ => rfl
  | cons x l ih => intro j fs; unfold cutAll; rw [ih, List.length_set]
theorem cutAll_ok (cs : List Int) : ∀ (l : List (Nm × Nat)) (j : Nat) (fs : List Fil), (∀ f ∈ fs, f.safe ≤ f.bs.length ∧ f.bs.length ≤ 4194304) → ∀ f ∈ cutAll cs j l fs, f.safe ≤ f.bs.length ∧ f.bs.length ≤ 4194304 := by
  intro l
  induction l with
  | nil => exact fun _ _ h => h
  | cons x l ih =>
    intro j fs h
    unfold cutAll
    refine ih _ _ fun f hf => ?_
    rcases List.mem_or_eq_of_mem_set hf with q | rfl
    · exact h f q
    · refine cut_ok _ ?_
      cases e : fs[x.2]? with
      | none => simp [fil0]
      | some g => exact h g (List.mem_of_getElem? e)
theorem DI.crash (h : DI d) (cs : List Int) : DI (d.crash cs) := by
  refine ⟨h.room, h.ris.aps, rfl, fun k => ?_, fun x hx => ?_, nofun, cutAll_ok _ _ _ _ h.fil, ?_, Nat.zero_le _, nofun⟩
  · simp only [DS.crash, List.take_nil]
    exact h.inj _
  · have := h.ixs _ x hx
    refine ⟨this.1, ?_⟩
    simp only [DS.crash]
    rw [cutAll_len]; exact this.2
  · simp only [DS.crash]
    rw [cutAll_len]; exact h.fl
/-! ### Steps -/
theorem create_steps (n : Nm) : (d.create n).1.steps ≤ d.steps + 1 := by
  unfold DS.create; split <;> (try split) <;> (try split) <;> (try split) <;> simp [DS.change, DS.tick]
theorem append_steps (n : Nm) (b : List Nat) : (d.append n b).1.steps ≤ d.steps + 1 := by
  unfold DS.append; split; simp; split; simp; split <;> simp [DS.tick]
theorem sync_steps (n : Nm) : (d.sync n).1.steps ≤ d.steps + 1 := by
  unfold DS.sync; split; simp; split <;> simp [DS.tick]
theorem rename_steps (n m : Nm) : (d.rename n m).1.steps ≤ d.steps + 1 := by
  unfold DS.rename; split; simp; split; simp; split <;> simp [DS.change, DS.tick]
theorem remove_steps (n : Nm) : (d.remove n).1.steps ≤ d.steps + 1 := by
  unfold DS.remove; split; simp; split <;> simp [DS.change, DS.tick]
theorem syncdir_steps : d.syncdir.1.steps ≤ d.steps + 1 := by
  unfold DS.syncdir; split <;> simp [DS.tick]
theorem stop_steps (n : Int) : (d.stop n).1.steps = d.steps := by
  unfold DS.stop; split; rfl; split <;> rfl
theorem crash_steps (cs : List Int) : (d.crash cs).steps = d.steps := rfl
end
end Go.Proofs.Ytkogmkajhjmkeaa

set_option maxRecDepth 20000
set_option linter.unusedVariables false
set_option linter.unusedSimpArgs false
namespace Go.Proofs.Ytkogmkajhjmkeaa
open Go Go.HW
variable {h : Heap} {L : List Assn} {Q : Value → Heap → Prop}
/-- The files in memory: by number, the block and what it holds. -/
abbrev FM := List (Nat × (Nat × Fil))
def blk (l : FM) (i : Nat) : Nat := ((mget l i).map (·.1)).getD 0
def filB (x : Nat × Fil) : Assn := fun m => ∃ a n c, Sp [pt x.1 T_disk_file [.slice a n c, .int .i64 (x.2.safe : Nat)], own a n c T_uint8 1 (nV x.2.bs)] m
theorem filB_open {x : Nat × Fil} : Hs h (filB x :: L) ↔ ∃ a n c, Hs h (pt x.1 T_disk_file [.slice a n c, .int .i64 (x.2.safe : Nat)] :: own a n c T_uint8 1 (nV x.2.bs) :: L) := by
  unfold filB
  simp only [Hs.ex, Hs.app, List.cons_append, List.nil_append]
def nmV (l : FM) (ns : List (Nm × Nat)) : List (Nm × Nat) := ns.map fun x => (x.1, blk l x.2)
def cptr (l : FM) (c : Chg) : OA := if c.to = e0 then none else some ⟨blk l c.f, 0, none⟩
def chV (l : FM) (c : Chg) : List Value := [.string c.fr, .string c.to, .pointer (cptr l c)]
theorem chV_len (l : FM) (c : Chg) : (chV l c).length = 3 := rfl
theorem chV_one (l : FM) (c : Chg) : ∀ x ∈ chV l c, oneC x = true := by
  intro x hx; simp [chV] at hx; rcases hx with rfl | rfl | rfl <;> rfl
structure LkD (d : DS) (l : FM) (mn ms : List (Nm × Nat)) : Prop where
  nd : (l.map (·.1)).Nodup
  fl : ∀ i b f, mget l i = some (b, f) → i < d.files.length ∧ d.fl i = f
  n : mn.Perm (nmV l d.now)
  s : ms.Perm (nmV l d.safe)
  hn : ∀ x ∈ d.now, mget l x.2 ≠ none
  hs : ∀ x ∈ d.safe, mget l x.2 ≠ none
  hc : ∀ c ∈ d.chg, c.to ≠ e0 → mget l c.f ≠ none
def dkV (d : DS) (rn rs : Nat) (a : OA) (c : Nat) : List Value := [.int .i64 (d.room : Nat), .map (some rn), .map (some rs), .slice a d.chg.length c, .int .i64 (d.steps : Nat), .bool d.left.isSome, .int .i64 (d.left.getD 0 : Nat)]
/-- A disk in memory. -/
def diskA (p : Nat) (d : DS) : Assn := fun m => ∃ l mn ms rn rs a c, LkD d l mn ms ∧
  Sp [pt p T_disk_Disk (dkV d rn rs a c), mp Value.string ptrV rn mn, mp Value.string ptrV rs ms, own a d.chg.length c T_disk_change 3 (d.chg.flatMap (chV l)), fam filB l] m
theorem diskA_open {p : Nat} {d : DS} : Hs h (diskA p d :: L) ↔ ∃ l mn ms rn rs a c, LkD d l mn ms ∧
    Hs h (pt p T_disk_Disk (dkV d rn rs a c) :: mp Value.string ptrV rn mn :: mp Value.string ptrV rs ms :: own a d.chg.length c T_disk_change 3 (d.chg.flatMap (chV l)) :: fam filB l :: L) := by
  unfold diskA
  simp only [Hs.ex, Hs.and, Hs.app, List.cons_append, List.nil_append]
theorem mget_congr {α β : Type} [DecidableEq α] {l l' : List (α × β)} (p : l.Perm l') (hn : (l'.map (·.1)).Nodup) (k : α) : mget l k = mget l' k := by
  cases e : mget l' k with
  | none =>
    have := mget_none.1 e
    exact mget_none.2 fun q => this ((p.map _).mem_iff.1 q)
  | some v => exact mget_of_mem ((p.map _).nodup_iff.2 hn) (p.mem_iff.2 (mget_mem e))
theorem nmV_keys (l : FM) (ns : List (Nm × Nat)) : (nmV l ns).map (·.1) = ns.map (·.1) := by unfold nmV; rw [List.map_map]; rfl
theorem nmV_get (l : FM) (ns : List (Nm × Nat)) (k : Nm) : mget (nmV l ns) k = (mget ns k).map (blk l) := by
  induction ns with
  | nil => rfl
  | cons x ns ih =>
    show mget ((x.1, blk l x.2) :: nmV l ns) k = _
    rw [mget_cons, mget_cons, ih]; split <;> rfl
theorem nmV_del (l : FM) (ns : List (Nm × Nat)) (k : Nm) : nmV l (mdel ns k) = mdel (nmV l ns) k := by
  unfold nmV mdel; rw [List.filter_map]; rfl
/-- A change, done to a map. -/
def doM (m : List (Nm × Nat)) (fr to : Nm) (b : Nat) : List (Nm × Nat) :=
  let m1 := if fr = e0 then m else mdel m fr
  if to = e0 then m1 else mset m1 to b
theorem mdel_perm {α β : Type} [DecidableEq α] {l l' : List (α × β)} (p : l.Perm l') (k : α) : (mdel l k).Perm (mdel l' k) := p.filter _
theorem doM_perm {l : FM} {m now : List (Nm × Nat)} {c : Chg} (p : m.Perm (nmV l now)) (hn : (now.map (·.1)).Nodup) : (doM m c.fr c.to (blk l c.f)).Perm (nmV l (ap now c)) := by
  unfold doM ap
  dsimp only
  have h1 : (if c.fr = e0 then m else mdel m c.fr).Perm (nmV l (if c.fr = e0 then now else mdel now c.fr)) := by
    split
    · exact p
    · rw [nmV_del]; exact mdel_perm p _
  have h2 : ((if c.fr = e0 then now else mdel now c.fr).map (·.1)).Nodup := by
    split
    · exact hn
    · exact hn.sublist ((mdel_sub _ _).map _)
  generalize (if c.fr = e0 then m else mdel m c.fr) = m1 at h1 ⊢
  generalize (if c.fr = e0 then now else mdel now c.fr) = n1 at h1 h2 ⊢
  split
  · exact h1
  · have hm : (m1.map (·.1)).Nodup := by rw [(h1.map _).nodup_iff, nmV_keys]; exact h2
    refine (mset_mdel_perm hm).trans ?_
    have : (nmV l (ins (mdel n1 c.to) (c.to, c.f))).Perm ((c.to, blk l c.f) :: nmV l (mdel n1 c.to)) := (ins_perm _ _).map _
    refine List.Perm.trans ?_ this.symm
    rw [nmV_del]
    exact (mdel_perm h1 _).cons _
theorem Ky_str : Keys PP T_string Value.string := Keys.str U_string
theorem z_fp : (PP.info? T_p_disk_file).bind (·.zero) = some (.pointer none) := by kernel_rfl
theorem do_hs {r b : Nat} {l : List (Nm × Nat)} {fr to : Nm} {x : OA} (hx : to ≠ e0 → x = some ⟨b, 0, none⟩) (H : Hs h (mp Value.string ptrV r l :: L)) (kk : ∀ h', Hs h' (mp Value.string ptrV r (doM l fr to b) :: L) → Q (.tuple #[]) h') :
    SpecH PP F_disk_names_do [.map (some r), .agg #[.string fr, .string to, .pointer x]] h Q := by
  refine disk_names_do.door ?_
  have H1 := H.new (t := T_disk_change) (cs := #[.string fr, .string to, .pointer x]) (xs := [.string fr, .string to, .pointer x])
  dsimp only
  generalize Array.size h = k at H1 ⊢
  generalize Array.push h _ = h1 at H1 ⊢
  have fin : ∀ {h2 : Heap} {l1 : List (Nm × Nat)}, (if to = e0 then l1 else mset l1 to b) = doM l fr to b → Hs h2 (pt k T_disk_change [.string fr, .string to, .pointer x] :: mp Value.string ptrV r l1 :: L) → disk_names_do.J1 (some r) ⟨k, 0, none⟩ Q h2 := by
    intro h2 l1 e H
    refine disk_names_do.J1_of ⟨_, H.cell (off := 1) rfl, (br_iff _ _ _).2 ⟨fun e2 => ?_, fun e2 => ?_⟩⟩
    · have e2 : ¬ to = e0 := by simpa using e2
      refine ⟨_, H.cell (off := 1) rfl, _, H.cell (off := 2) rfl, ?_⟩
      refine H.m1.mset U_disk_names Ky_str to b (by rw [hx e2]; rfl) fun h3 H3 => kk h3 ?_
      rw [if_neg e2] at e; rw [← e]; exact H3.m1.tl
    · have e2 : to = e0 := by simpa using e2
      rw [if_pos e2] at e
      subst e; exact kk _ H.tl
  refine ⟨_, H1.cell (off := 0) rfl, (br_iff _ _ _).2 ⟨fun e => ?_, fun e => ?_⟩⟩
  · have e : ¬ fr = e0 := by simpa using e
    refine ⟨_, H1.cell (off := 0) rfl, ?_⟩
    refine H1.m1.mdel U_disk_names Ky_str fr fun h2 H2 => ⟨rfl, fin ?_ H2.m1⟩
    unfold doM; rw [if_neg e]
  · have e : fr = e0 := by simpa using e
    refine fin ?_ H1
    unfold doM; rw [if_pos e]
theorem Down_hs {p : Nat} {d : DS} {rn rs : Nat} {a : OA} {c : Nat} (H : Hs h (pt p T_disk_Disk (dkV d rn rs a c) :: L)) (k : Q (.bool d.down) h) : SpecH PP F_disk_Disk_Down [.pointer (some ⟨p, 0, none⟩)] h Q := by
  refine disk_Disk_Down.door (br_true rfl ?_)
  refine ⟨_, H.cell (off := 5) rfl, (br_iff _ _ _).2 ⟨fun e => ?_, fun e => ?_⟩⟩
  · refine ⟨_, H.cell (off := 6) rfl, ?_⟩
    have : d.down = (((d.left.getD 0 : Nat) : Int) == 0) := by
      unfold DS.down
      cases h1 : d.left with
      | none => rw [h1] at e; cases e
      | some n => cases n <;> simp; omega
    rw [← this]; exact k
  · have : d.down = false := by
      unfold DS.down
      cases h1 : d.left with
      | none => rfl
      | some n => rw [h1] at e; cases e
    rw [← this]; exact k
theorem ready_hs {p : Nat} {d : DS} {rn rs : Nat} {a : OA} {c : Nat} (H : Hs h (pt p T_disk_Disk (dkV d rn rs a c) :: L)) (k : Q (.int .i64 (if d.down then 94 else 0)) h) : SpecH PP F_disk_Disk_ready [.pointer (some ⟨p, 0, none⟩)] h Q := by
  refine disk_Disk_ready.door (br_false rfl ?_)
  refine Down_hs H ⟨_, rfl, (br_iff _ _ _).2 ⟨fun e => ?_, fun e => ?_⟩⟩
  · rw [if_pos e] at k; exact k
  · rw [if_neg (by rw [e]; simp)] at k; exact k
theorem done_hs {p : Nat} {d : DS} {rn rs : Nat} {a : OA} {c : Nat} (hd : d.down = false) (hs : d.steps < 2 ^ 62) (hl : ∀ n, d.left = some n → n < 2 ^ 63) (H : Hs h (pt p T_disk_Disk (dkV d rn rs a c) :: L)) (kk : ∀ h', Hs h' (pt p T_disk_Disk (dkV d.tick rn rs a c) :: L) → Q (.int .i64 0) h') :
    SpecH PP F_disk_Disk_done [.pointer (some ⟨p, 0, none⟩)] h Q := by
  refine disk_Disk_done.door ⟨_, H.cell (off := 4) rfl, ?_⟩
  rw [inc (by omega)]
  refine H.sto (off := 4) (by simp [dkV]) (fun h1 H1 => ?_)
  refine ⟨_, H1.cell (off := 5) rfl, (br_iff _ _ _).2 ⟨fun e => ?_, fun e => ?_⟩⟩
  · obtain ⟨n, hn⟩ := Option.isSome_iff_exists.1 e
    have hn0 : n ≠ 0 := by rintro rfl; unfold DS.down at hd; simp [hn] at hd
    have := hl n hn
    refine ⟨_, H1.cell (off := 6) rfl, ?_⟩
    have e6 : IntKind.i64.wrap (((d.left.getD 0 : Nat) : Int) - 1) = ((n - 1 : Nat) : Int) := by rw [hn]; simp only [Option.getD_some]; rw [wrap_i64_z (by omega) (by omega)]; omega
    rw [e6]
    refine H1.sto (off := 6) (by simp [dkV]) (fun h2 H2 => kk h2 ?_)
    simpa [dkV, DS.tick, hn] using H2
  · have hn : d.left = none := by cases h1 : d.left with | none => rfl | some n => rw [h1] at e; cases e
    refine kk h1 ?_
    simpa [dkV, DS.tick, hn] using H1
theorem find_hs {p : Nat} {d : DS} {l : FM} {mn : List (Nm × Nat)} {rn rs : Nat} {a : OA} {c : Nat} {n : Nm} (hm : mn.Perm (nmV l d.now)) (hk : (d.now.map (·.1)).Nodup) (H : Hs h (pt p T_disk_Disk (dkV d rn rs a c) :: mp Value.string ptrV rn mn :: L))
    (k1 : d.down = true → Q (.tuple #[.pointer none, .int .i64 94]) h) (k2 : d.down = false → d.find n = none → Q (.tuple #[.pointer none, .int .i64 92]) h) (k3 : ∀ i, d.down = false → d.find n = some i → Q (.tuple #[.pointer (some ⟨blk l i, 0, none⟩), .int .i64 0]) h) :
    SpecH PP F_disk_Disk_find [.pointer (some ⟨p, 0, none⟩), .string n] h Q := by
  refine disk_Disk_find.door (ready_hs H ⟨_, rfl, (br_iff _ _ _).2 ⟨fun e => ?_, fun e => ?_⟩⟩)
  · cases hd : d.down with
    | true => exact k1 hd
    | false => rw [hd] at e; cases e
  · cases hd : d.down with
    | true => rw [hd] at e; cases e
    | false =>
      refine ⟨_, H.cell (off := 1) rfl, ?_⟩
      refine H.m1.lookup2 U_disk_names Ky_str z_fp n ?_
      have hg : mget mn n = (d.find n).map (blk l) := by rw [mget_congr hm (by rw [nmV_keys]; exact hk), nmV_get]; rfl
      rw [hg]
      cases hf : d.find n with
      | none => exact ⟨none, false, rfl, br_true rfl (k2 hd hf)⟩
      | some i => exact ⟨some ⟨blk l i, 0, none⟩, true, rfl, br_false rfl (k3 i hd hf)⟩
theorem good_hs {n : Nm} (hb : n.size < 2 ^ 60) (H : Hs h L) (kk : ∀ h', Hs h' L → Q (.bool (good n)) h') : SpecH PP F_disk_good [.string n] h Q := by
  refine disk_good.door ?_
  refine H.s2b U_string U_sl_uint8 U_uint8 fun h1 a c hc H1 => ⟨_, _, _, rfl, ?_⟩
  have go : ∀ (k i : Nat), i + k = n.size → ((sb n).take i).all gch = true → disk_good.L1 n (some a) n.size c n.size i (disk_good.K1 Q) h1 := by
    intro k
    induction k with
    | zero =>
      intro i hi ha
      refine disk_good.L1_of (br_false (decide_eq_false (by omega)) (disk_good.L1_X0 ?_))
      rw [List.take_of_length_le (by rw [sb_len]; omega)] at ha
      refine (br_iff _ _ _).2 ⟨fun e => ?_, fun e => ?_⟩
      · have e : ¬ n = e0 := by simpa using e
        have : decide (((n.size : Nat) : Int) ≤ 32) = good n := by unfold good; rw [ha, decide_eq_true e]; simp; omega
        dsimp only; rw [this]; exact kk _ H1.tl
      · have e : n = e0 := by simpa using e
        have : false = good n := by unfold good; rw [decide_eq_false (by simpa using e)]; simp
        rw [this]; exact kk _ H1.tl
    | succ k ih =>
      intro i hi ha
      have hin : i < n.size := by omega
      have hin' : i < (sb n).length := by rw [sb_len]; exact hin
      refine disk_good.L1_of (br_true (decide_eq_true (by omega)) ?_)
      refine idx E_sl_uint8 (v := .int .u8 ((sb n)[i] : Nat)) H1.rdO (by omega) (by omega) (by rw [Int.toNat_natCast]; exact nV_get hin') fun t ht => ⟨_, ht, ?_⟩
      generalize hx : (sb n)[i] = x
      have hj : ∀ t : Bool, t = !gch x → disk_good.J1 n (some a) n.size c n.size i t (disk_good.K1 Q) h1 := by
        rintro t rfl
        refine disk_good.J1_of ((br_iff _ _ _).2 ⟨fun e => ?_, fun e => ?_⟩)
        · have e : gch x = false := by simpa using e
          have : false = good n := by
            have : (sb n).all gch = false := by
              rw [List.all_eq_false]
              exact ⟨x, by rw [← hx]; exact List.getElem_mem _, by rw [e]; simp⟩
            unfold good; rw [this]; rfl
          exact disk_good.L1_Xret (by rw [this]; exact kk _ H1.tl)
        · have e : gch x = true := by simpa using e
          rw [inc (by omega)]
          refine ih (i + 1) (by omega) ?_
          rw [List.take_succ_eq_append_getElem hin', List.all_append, ha, hx]
          simp [e]
      dsimp only
      refine (br_iff _ _ _).2 ⟨fun e1 => (br_iff _ _ _).2 ⟨fun e2 => (br_iff _ _ _).2 ⟨fun e3 => hj _ ?_, fun e3 => hj _ ?_⟩, fun e2 => (br_iff _ _ _).2 ⟨fun e3 => (br_iff _ _ _).2 ⟨fun e4 => hj _ ?_, fun e4 => hj _ ?_⟩, fun e3 => hj _ ?_⟩⟩,
        fun e1 => (br_iff _ _ _).2 ⟨fun e2 => (br_iff _ _ _).2 ⟨fun e3 => (br_iff _ _ _).2 ⟨fun e4 => hj _ ?_, fun e4 => hj _ ?_⟩, fun e3 => (br_iff _ _ _).2 ⟨fun e4 => (br_iff _ _ _).2 ⟨fun e5 => hj _ ?_, fun e5 => hj _ ?_⟩, fun e4 => hj _ ?_⟩⟩, fun e2 => hj _ ?_⟩⟩
      all_goals (rw [Bool.eq_iff_iff]; simp [gch] at *; omega)
  exact go n.size 0 (by omega) rfl
theorem says_pure {c : Int} {n : Nat} (h1 : -9223372036854775808 ≤ c) (h2 : c < 9223372036854775808) (hn : n < 2 ^ 60) : PureAt PP F_disk_says [.int .i64 c, .int .i64 (n : Nat)] (.int .i64 (says c n : Nat)) := by
  intro h
  refine disk_says.door ?_
  have fin : ∀ x : Int, 0 ≤ x → (x % ((n : Int) + 1)).toNat = says c n → disk_says.J1 x n (fun r h' => r = .int .i64 (says c n : Nat) ∧ h' = h) h := by
    intro x hx e
    refine disk_says.J1_of ?_
    rw [inc (by omega)]
    refine br_true (by simp; omega) ⟨?_, rfl⟩
    rw [Int.tmod_eq_emod_of_nonneg hx, ← e, Int.toNat_of_nonneg (Int.emod_nonneg _ (by omega))]
    simp
  refine (br_iff _ _ _).2 ⟨fun e => ?_, fun e => ?_⟩
  · have e := of_decide_eq_true e
    dsimp only
    rw [wrap_i64_z (z := c + 1) (by omega) (by omega), wrap_i64_z (by omega) (by omega)]
    refine fin _ (by omega) ?_
    unfold says; rw [if_pos e]; congr 2; omega
  · have e := of_decide_eq_false e
    refine fin _ (by omega) ?_
    unfold says; rw [if_neg e]
end Go.Proofs.Ytkogmkajhjmkeaa

set_option maxRecDepth 20000
set_option linter.unusedVariables false
set_option linter.unusedSimpArgs false
namespace Go.Proofs.Ytkogmkajhjmkeaa
open Go Go.HW
variable {h : Heap} {L : List Assn} {Q : Value → Heap → Prop}
theorem str_app {l : List ByteArray} {a : OA} {c : Nat} {w : ByteArray} {h : Heap} {K : VP} (hs : l.length ≤ 2 ^ 40) (H : Hs h (own a l.length c T_string 1 (l.map Value.string) :: L))
    (k : ∀ h' a' c', Hs h' (own a' (l ++ [w]).length c' T_string 1 ((l ++ [w]).map Value.string) :: L) → K (.slice a' (l ++ [w]).length c') h') :
    hwp PP (Builtin.append_ #[T_sl_string, T_sl_string] T_sl_string #[.slice a l.length c, .slice (some ⟨Array.size h, 0, none⟩) 1 1]) K (Array.push h (.cells #[.string w] T_string (0, 0))) := by
  refine H.app_vals E_sl_string (m := 1) (ys := [.string w]) rfl rfl (by simp [oneC]) (fun h' a' c' H' => ?_) (by omega) (by omega)
  have e : l.map Value.string ++ [.string w] = (l ++ [w]).map Value.string := by simp
  rw [e] at H'
  have := k h' a' c'
  rw [List.length_append] at this
  exact this H'
/-- What maps.Keys yields. -/
theorem keys1_hs {r t1 : Nat} {m : List (Nm × Nat)} {yield : Value} (A : List Nm → Assn)
    (step : ∀ (done : List Nm) (x : Nm) (M : List Assn) (h : Heap) (R : VP), done.length < m.length → Hs h (A done :: M) → (∀ h', Hs h' (A (done ++ [x]) :: M) → R (.bool true) h') → callV PP yield [.string x] R h)
    (H : Hs h (A [] :: pt t1 T_disk_names [.map (some r)] :: mp Value.string ptrV r m :: L))
    (fin : ∀ h' ns, ns.Perm (m.map (·.1)) → Hs h' (A ns :: mp Value.string ptrV r m :: L) → Q (.tuple #[]) h') :
    SpecH PP F_maps_Keys_disk_names_string_disk_file_1 [yield, .pointer (some ⟨t1, 0, none⟩)] h Q := by
  refine maps_Keys_disk_names_string_disk_file_1.door ⟨_, H.m1.cell (off := 0) rfl, ?_⟩
  refine H.m2.range U_disk_names fun h1 i H1 => ⟨_, rfl, ?_⟩
  have go : ∀ (k : Nat) {h : Heap} {done todo : List (Nm × Nat)}, todo.length = k → Hs h (rgn Value.string ptrV r i m done todo :: A (done.map (·.1)) :: pt t1 T_disk_names [.map (some r)] :: L) →
      maps_Keys_disk_names_string_disk_file_1.L1 yield (.pointer (some ⟨i, 0, none⟩)) (maps_Keys_disk_names_string_disk_file_1.K1 Q) h := by
    intro k
    induction k with
    | zero =>
      intro h done todo hk H
      have : todo = [] := List.length_eq_zero_iff.1 hk
      subst this
      refine maps_Keys_disk_names_string_disk_file_1.L1_of (H.next (fun _ => ⟨false, [], rfl, br_false rfl (maps_Keys_disk_names_string_disk_file_1.L1_X0 ?_)⟩) (fun h' x todo' p _ => by simp at p))
      have hp := H.rgn_perm
      rw [List.append_nil] at hp
      exact fin h _ (hp.map _) (H.rgn_end.sel 3 [1, 0])
    | succ k ih =>
      intro h done todo hk H
      refine maps_Keys_disk_names_string_disk_file_1.L1_of (H.next (fun e => by rw [e] at hk; cases hk) (fun h2 x todo' p H2 => ⟨true, [.string x.1, ptrV x.2], rfl, br_true rfl ?_⟩))
      refine H2.entry ⟨_, _, rfl, _, rfl, ?_⟩
      have hp := H2.rgn_perm
      have hl : done.length < m.length := by have := hp.length_eq; simp at this; omega
      refine step (done.map (·.1)) x.1 _ h2 _ (by simpa using hl) H2.m1 fun h3 H3 => ⟨_, rfl, br_false rfl ?_⟩
      refine ih (done := done ++ [x]) (todo := todo') (by have := p.length_eq; simp at this; omega) ?_
      rw [List.map_append]
      exact Hs.m1 H3
  exact go m.length (done := []) rfl H1
def TA (out l df : Nat) (Lp : Loop) (ns : List Nm) : Assn := fun m => ∃ a c, Sp [ob l (.loop Lp), ob df (.deferred (some [])), pt out T_sl_string [.slice a ns.length c], own a ns.length c T_string 1 (ns.map Value.string)] m
theorem TA_open {out l df : Nat} {Lp : Loop} {ns : List Nm} {M : List Assn} : Hs h (TA out l df Lp ns :: M) ↔ ∃ a c, Hs h (ob l (.loop Lp) :: ob df (.deferred (some [])) :: pt out T_sl_string [.slice a ns.length c] :: own a ns.length c T_string 1 (ns.map Value.string) :: M) := by
  unfold TA
  simp only [Hs.ex, Hs.app, List.cons_append, List.nil_append]
theorem names_hs {r t1 : Nat} {m : List (Nm × Nat)} (hm : m.length < 2 ^ 40) (H : Hs h (pt t1 T_disk_names [.map (some r)] :: mp Value.string ptrV r m :: L))
    (kk : ∀ h' a c (ns : List Nm), ns.Perm (m.map (·.1)) → Hs h' (own a ns.length c T_string 1 (ns.map Value.string) :: mp Value.string ptrV r m :: L) → Q (.slice a ns.length c) h') :
    SpecH PP F_slices_AppendSeq_string_string [.slice none 0 0, .func (.func F_maps_Keys_disk_names_string_disk_file_1) #[] #[.pointer (some ⟨t1, 0, none⟩)]] h Q := by
  obtain ⟨μ, sm, s0, HE⟩ := Hs.em2 (As := [pt t1 T_disk_names [.map (some r)], mp Value.string ptrV r m]) H
  refine SpecH.keepD (slices_AppendSeq_string_string.door ?_)
  dsimp only
  have H1 := HE.new (t := T_sl_string) (cs := #[.slice none 0 0]) (xs := [.slice none 0 0])
  generalize Array.push h (.cells #[.slice none 0 0] T_sl_string (0, 0)) = h1 at H1 ⊢
  generalize Array.size h = out at H1 ⊢
  refine ⟨F_maps_Keys_disk_names_string_disk_file_1, #[], #[.pointer (some ⟨t1, 0, none⟩)], rfl, by kernel_rfl, fun fn tmps hf => ?_⟩
  generalize hL : (Loop.mk .ready none fn tmps #[7] (slices_AppendSeq_string_string.cd 52) (slices_AppendSeq_string_string.cd 53) h1.size) = Lp
  have H3 := (H1.push (.deferred (some []))).push (.loop Lp)
  rw [Array.size_push] at H3
  generalize (Array.push (Array.push h1 (.deferred (some []))) (.loop Lp)) = h3 at H3 ⊢
  generalize Array.size h1 = df at H3 hL ⊢
  have H4 : Hs h3 (TA out (df + 1) df Lp [] :: pt t1 T_disk_names [.map (some r)] :: mp Value.string ptrV r m :: [Em μ]) :=
    TA_open.2 ⟨none, 0, (H3.own_nil T_string 1).sel 4 [1, 2, 3, 0]⟩
  show SpecH PP F_maps_Keys_disk_names_string_disk_file_1 [_, _] _ _
  refine keys1_hs (TA out (df + 1) df Lp) ?_ H4 ?_
  · intro done x M h R hl H R1
    obtain ⟨a2, c2, H⟩ := TA_open.1 H
    refine slices_AppendSeq_string_string.R1_yield (t4 := none) (t4n := 0) (t4c := 0) (s2 := ⟨out, 0, none⟩) H.get (by rw [← hL]) (by rw [← hL]) (by rw [← hL]) (by rw [← hL]; exact hf) (slices_AppendSeq_string_string.R1_of ?_)
    refine ⟨Lp, H.get, by rw [← hL], ?_⟩
    have H3 := H.set (.loop { Lp with state := .busy })
    dsimp only
    generalize h.setIfInBounds (df + 1) (.loop { Lp with state := .busy }) = h3 at H3 ⊢
    refine ⟨_, _, _, H3.m2.cell (off := 0) rfl, ?_⟩
    refine str_app (w := x) (by omega) H3.m3 fun h5 a5 c5 H5 => ⟨_, _, _, rfl, ?_⟩
    refine (H5.m3).sto (off := 0) (by simp) fun h6 H6 => ?_
    refine ⟨{ Lp with state := .busy }, H6.m2.get, ?_⟩
    have eL : endL { Lp with state := .busy } none = .loop Lp := by rw [← hL]; rfl
    rw [eL]
    have H7 := H6.m2.set (.loop Lp)
    exact R1 _ (TA_open.2 ⟨a5, c5, H7.sel 4 [0, 3, 1, 2]⟩)
  · intro h' ns hp H
    obtain ⟨a2, c2, H⟩ := TA_open.1 H
    refine ⟨Lp, H.get, by rw [← hL]; simp, H.m1.get, ?_⟩
    have H4 := H.set (.loop { Lp with state := .exhausted })
    generalize h'.setIfInBounds (df + 1) (.loop { Lp with state := .exhausted }) = h4 at H4 ⊢
    rw [show Lp.pending = none by rw [← hL]]
    show slices_AppendSeq_string_string.K1 _ .normal _ _
    refine slices_AppendSeq_string_string.R1_outn0 ⟨_, _, _, (H4.m2).cell (off := 0) rfl, fun h5 tk kd => ?_⟩
    have H5 := H4.sel 5 [3, 4]
    refine kk h5 a2 c2 ns hp (Hs.takes2 (As := [own a2 ns.length c2 T_string 1 (ns.map Value.string), mp Value.string ptrV r m]) (M := []) H5 sm s0 tk kd ?_)
    intro A hA m' a
    rcases List.mem_cons.1 hA with rfl | hA
    · exact nd_own a
    · rw [List.mem_singleton.1 hA] at a ⊢; exact nd_mp a
theorem Keys_hs {r : Nat} (H : Hs h L) (kk : ∀ h' t1, Hs h' (pt t1 T_disk_names [.map (some r)] :: L) → Q (.func (.func F_maps_Keys_disk_names_string_disk_file_1) #[] #[.pointer (some ⟨t1, 0, none⟩)]) h') :
    SpecH PP F_maps_Keys_disk_names_string_disk_file [.map (some r)] h Q :=
  maps_Keys_disk_names_string_disk_file.door (kk _ _ H.new)
/-- The names, rising. -/
theorem Sorted_hs {r t1 : Nat} {m : List (Nm × Nat)} (hm : m.length < 2 ^ 40) (hn : (m.map (·.1)).Nodup) (H : Hs h (pt t1 T_disk_names [.map (some r)] :: mp Value.string ptrV r m :: L))
    (kk : ∀ h' a c (ns : List Nm), ns.Perm (m.map (·.1)) → ns.Pairwise (fun x y => strLt x y = true) → Hs h' (own a ns.length c T_string 1 (ns.map Value.string) :: mp Value.string ptrV r m :: L) → Q (.slice a ns.length c) h') :
    SpecH PP F_slices_Sorted_string [.func (.func F_maps_Keys_disk_names_string_disk_file_1) #[] #[.pointer (some ⟨t1, 0, none⟩)]] h Q := by
  refine slices_Sorted_string.door (slices_Collect_string.door (names_hs hm H fun h1 a c ns hp H1 => ⟨_, _, _, rfl, _, _, _, rfl, ?_⟩))
  have hl : ns.length = m.length := by have := hp.length_eq; simpa using this
  refine sort_hs rfl (by omega) H1 fun h2 ns' hp' ho H2 => ⟨rfl, ?_⟩
  have hl' : ns'.length = ns.length := hp'.length_eq
  rw [← hl'] at H2 ⊢
  refine kk h2 a c ns' (hp'.trans hp) ?_ H2
  have hd : ns'.Nodup := (hp'.trans hp).nodup_iff.2 hn
  rw [List.nodup_iff_pairwise_ne] at hd
  refine List.Pairwise.imp₂ (fun x y h1 h2 => ?_) ho hd
  cases e : strLt x y with
  | true => rfl
  | false => exact absurd (slt_tri e h1) h2
theorem rise_uniq : ∀ {l m : List Nm}, l.Pairwise (fun x y => strLt x y = true) → m.Pairwise (fun x y => strLt x y = true) → l.Perm m → l = m
  | [], m, _, _, p => by have := p.length_eq; exact (List.length_eq_zero_iff.1 this.symm).symm
  | x :: l, [], _, _, p => by simp at p
  | x :: l, y :: m, h1, h2, p => by
    have h1' := List.pairwise_cons.1 h1
    have h2' := List.pairwise_cons.1 h2
    have e : x = y := by
      have hx : x ∈ y :: m := p.mem_iff.1 (List.mem_cons_self ..)
      have hy : y ∈ x :: l := p.mem_iff.2 (List.mem_cons_self ..)
      rcases List.mem_cons.1 hx with q | q
      · exact q
      rcases List.mem_cons.1 hy with q2 | q2
      · exact q2.symm
      have a := h2'.1 x q
      have b := h1'.1 y q2
      rw [slt_asymm a] at b; cases b
    subst e
    rw [rise_uniq h1'.2 h2'.2 (p.cons_inv)]
end Go.Proofs.Ytkogmkajhjmkeaa

set_option maxRecDepth 20000
set_option linter.unusedVariables false
set_option linter.unusedSimpArgs false
namespace Go.Proofs.Ytkogmkajhjmkeaa
open Go Go.HW
variable {h : Heap} {L : List Assn} {Q : Value → Heap → Prop}
section
variable {d : DS} {l l' : FM} {mn ms : List (Nm × Nat)}
theorem blk_congr {i : Nat} (e : mget l' i = mget l i) : blk l' i = blk l i := by unfold blk; rw [e]
theorem nmV_congr {ns : List (Nm × Nat)} (e : ∀ x ∈ ns, blk l' x.2 = blk l x.2) : nmV l' ns = nmV l ns :=
  List.map_congr_left fun x hx => by rw [e x hx]
theorem chV_congr {c : Chg} (e : c.to ≠ e0 → blk l' c.f = blk l c.f) : chV l' c = chV l c := by
  unfold chV cptr
  by_cases q : c.to = e0
  · rw [if_pos q, if_pos q]
  · rw [if_neg q, if_neg q, e q]
theorem chVs_congr {cs : List Chg} (e : ∀ c ∈ cs, c.to ≠ e0 → blk l' c.f = blk l c.f) : cs.flatMap (chV l') = cs.flatMap (chV l) := by
  induction cs with
  | nil => rfl
  | cons c cs ih => rw [List.flatMap_cons, List.flatMap_cons, chV_congr (e c (List.mem_cons_self ..)), ih fun c hc => e c (List.mem_cons_of_mem _ hc)]
theorem LkD.lt (lk : LkD d l mn ms) {i : Nat} (e : mget l i ≠ none) : i < d.files.length := by
  cases q : mget l i with
  | none => exact absurd q e
  | some x => exact (lk.fl i x.1 x.2 q).1
theorem LkD.add (lk : LkD d l mn ms) (b : Nat) : LkD { d with files := d.files ++ [fil0] } (mset l d.files.length (b, fil0)) mn ms := by
  have hne : ∀ i, mget l i ≠ none → mget (mset l d.files.length (b, fil0)) i = mget l i := fun i e => by
    rw [mget_mset, if_neg (by have := lk.lt e; omega)]
  refine ⟨nodup_mset lk.nd _ _, fun i b' f e => ?_, ?_, ?_, fun x hx => ?_, fun x hx => ?_, fun c hc h1 => ?_⟩
  · rw [mget_mset] at e
    by_cases q : d.files.length = i
    · rw [if_pos q] at e; cases e; subst q
      exact ⟨by simp, by simp [DS.fl]⟩
    · rw [if_neg q] at e
      obtain ⟨h1, h2⟩ := lk.fl i b' f e
      refine ⟨by simp; omega, ?_⟩
      rw [← h2]; simp only [DS.fl]
      rw [List.getElem?_append_left h1]
  · rw [nmV_congr fun x hx => blk_congr (hne _ (lk.hn x hx))]; exact lk.n
  · rw [nmV_congr fun x hx => blk_congr (hne _ (lk.hs x hx))]; exact lk.s
  · rw [hne _ (lk.hn x hx)]; exact lk.hn x hx
  · rw [hne _ (lk.hs x hx)]; exact lk.hs x hx
  · rw [hne _ (lk.hc c hc h1)]; exact lk.hc c hc h1
theorem blk_set {i b : Nat} {f f' : Fil} (e : mget l i = some (b, f)) (j : Nat) : blk (mset l i (b, f')) j = blk l j := by
  unfold blk
  rw [mget_mset]
  by_cases q : i = j
  · subst q; rw [if_pos rfl, e]; rfl
  · rw [if_neg q]
theorem LkD.setf (lk : LkD d l mn ms) {i b : Nat} {f : Fil} (e : mget l i = some (b, f)) (f' : Fil) : LkD { d with files := d.files.set i f' } (mset l i (b, f')) mn ms := by
  have hne : ∀ j, mget l j ≠ none → mget (mset l i (b, f')) j ≠ none := fun j e2 => by
    rw [mget_mset]; split
    · simp
    · exact e2
  refine ⟨nodup_mset lk.nd _ _, fun j b' g e2 => ?_, ?_, ?_, fun x hx => hne _ (lk.hn x hx), fun x hx => hne _ (lk.hs x hx), fun c hc h1 => hne _ (lk.hc c hc h1)⟩
  · have hi := (lk.fl i b f e).1
    rw [mget_mset] at e2
    by_cases q : i = j
    · rw [if_pos q] at e2; cases e2; subst q
      exact ⟨by simpa using hi, by simp [DS.fl, hi]⟩
    · rw [if_neg q] at e2
      obtain ⟨h1, h2⟩ := lk.fl j b' g e2
      refine ⟨by simpa using h1, ?_⟩
      rw [← h2]; simp only [DS.fl]
      rw [List.getElem?_set_ne q]
  · rw [nmV_congr fun x _ => blk_set e _]; exact lk.n
  · rw [nmV_congr fun x _ => blk_set e _]; exact lk.s
theorem LkD.tick (lk : LkD d l mn ms) : LkD d.tick l mn ms := ⟨lk.nd, lk.fl, lk.n, lk.s, lk.hn, lk.hs, lk.hc⟩
theorem LkD.change (lk : LkD d l mn ms) (hk : (d.now.map (·.1)).Nodup) {cg : Chg} (hc : cg.to ≠ e0 → mget l cg.f ≠ none) : LkD (d.change cg) l (doM mn cg.fr cg.to (blk l cg.f)) ms :=
  ⟨lk.nd, lk.fl, doM_perm lk.n hk, lk.s, fun x hx => by
    rcases mem_ap hx with q | ⟨q, rfl⟩
    · exact lk.hn x q
    · exact hc q, lk.hs, fun c hcc h1 => by
    rcases List.mem_append.1 hcc with q | q
    · exact lk.hc c q h1
    · rw [List.mem_singleton.1 q] at h1 ⊢; exact hc h1⟩
end
theorem change_hs {p : Nat} {d : DS} {l : FM} {mn ms : List (Nm × Nat)} {rn rs : Nat} {a : OA} {c : Nat} {cg : Chg} (hd : d.down = false) (hs : d.steps < 2 ^ 40) (hcl : d.chg.length ≤ d.steps) (hl : ∀ n, d.left = some n → n < 2 ^ 63) (lk : LkD d l mn ms) (hk : (d.now.map (·.1)).Nodup)
    (hcg : cg.to ≠ e0 → mget l cg.f ≠ none)
    (H : Hs h (pt p T_disk_Disk (dkV d rn rs a c) :: mp Value.string ptrV rn mn :: mp Value.string ptrV rs ms :: own a d.chg.length c T_disk_change 3 (d.chg.flatMap (chV l)) :: fam filB l :: L))
    (kk : ∀ h', Hs h' (diskA p (d.change cg) :: L) → Q (.int .i64 0) h') :
    SpecH PP F_disk_Disk_change [.pointer (some ⟨p, 0, none⟩), .agg #[.string cg.fr, .string cg.to, .pointer (cptr l cg)]] h Q := by
  refine disk_Disk_change.door ?_
  have H1 := H.new (t := T_disk_change) (cs := #[.string cg.fr, .string cg.to, .pointer (cptr l cg)]) (xs := chV l cg)
  dsimp only
  generalize Array.size h = k at H1 ⊢
  generalize Array.push h _ = h1 at H1 ⊢
  refine ⟨_, H1.m1.cell (off := 1) rfl, _, _, _, H1.rdc0, ?_⟩
  refine do_hs (b := blk l cg.f) (fun q => by unfold cptr; rw [if_neg q]) (H1.m2) fun h2 H2 => ⟨rfl, ?_⟩
  refine ⟨_, _, _, H2.m2.cell (off := 3) rfl, _, _, _, H2.m1.rdc0, ?_⟩
  refine (H2.m4).app_vals E_sl_disk_change (m := 1) (ys := chV l cg) rfl rfl (chV_one l cg) (fun h3 a' c' H3 => ⟨_, _, _, rfl, ?_⟩) (by omega) (by omega)
  refine (H3.m3).sto (off := 3) (by simp [dkV]) fun h4 H4 => ?_
  have e1 : d.chg.flatMap (chV l) ++ chV l cg = (d.chg ++ [cg]).flatMap (chV l) := by simp
  rw [e1] at H4
  have e2 : (dkV d rn rs a c).set 3 (.slice a' (d.chg.length + 1) c') = dkV { d with now := ap d.now cg, chg := d.chg ++ [cg] } rn rs a' c' := by simp [dkV]
  rw [e2] at H4
  refine done_hs (d := { d with now := ap d.now cg, chg := d.chg ++ [cg] }) hd (show d.steps < 2 ^ 62 by omega) hl H4 fun h5 H6 => ⟨_, rfl, kk h5 (diskA_open.2 ⟨l, _, ms, rn, rs, a', c', lk.change hk hcg, ?_⟩)⟩
  have H7 := H6.sel 6 [0, 2, 4, 1, 5]
  have e3 : (d.change cg).chg.length = d.chg.length + 1 := by simp [DS.change, DS.tick]
  rw [e3]
  exact H7
/-- A file of a disk is looked at. -/
theorem fil_at {l : FM} {i b : Nat} {f : Fil} (nd : (l.map (·.1)).Nodup) (e : mget l i = some (b, f)) (H : Hs h (fam filB l :: L)) : ∃ a n c, Hs h (pt b T_disk_file [.slice a n c, .int .i64 (f.safe : Nat)] :: own a n c T_uint8 1 (nV f.bs) :: fam filB (mdel l i) :: L) := by
  exact filB_open.1 (H.fam_take nd e)
theorem New_hs {room : Int} (H : Hs h L) (k0 : (room < 1 ∨ 4194304 < room) → Q (.tuple #[.pointer none, .int .i64 1]) h)
    (kk : 1 ≤ room → room ≤ 4194304 → ∀ h' p, Hs h' (diskA p (dnew room.toNat) :: L) → Q (.tuple #[.pointer (some ⟨p, 0, none⟩), .int .i64 0]) h') : SpecH PP F_disk_New [.int .i64 room] h Q := by
  refine disk_New.door ?_
  have good : 1 ≤ room → room ≤ 4194304 → disk_New.J1 room false Q h := by
    intro h1 h2
    refine disk_New.J1_of (br_false rfl ?_)
    have H1 := (H.fam_new (α := Nat) (A := filB)).own_nil T_disk_change 3
    have H2 := H1.mp_new (κ := Value.string) (ν := ptrV)
    have H3 := H2.mp_new (κ := Value.string) (ν := ptrV)
    have H4 := H3.new (t := T_disk_Disk) (xs := [.int .i64 room, .map (some (Array.size h)), .map (some (Array.size (Array.push h (.map #[] 0)))), .slice none 0 0, .int .i64 0, .bool false, .int .i64 0])
    dsimp only
    refine kk h1 h2 _ _ (diskA_open.2 ⟨[], [], [], Array.size h, Array.size (Array.push h (.map #[] 0)), none, 0, ⟨by simp, by simp [mget_nil], .refl _, .refl _, nofun, nofun, nofun⟩, ?_⟩)
    have e : ((room.toNat : Nat) : Int) = room := by omega
    have e2 : dkV (dnew room.toNat) (Array.size h) (Array.size (Array.push h (.map #[] 0))) none 0 = [.int .i64 room, .map (some (Array.size h)), .map (some (Array.size (Array.push h (.map #[] 0)))), .slice none 0 0, .int .i64 0, .bool false, .int .i64 0] := by
      simp [dkV, dnew, e]
    rw [e2]
    exact H4.sel 4 [0, 2, 1, 3]
  refine (br_iff _ _ _).2 ⟨fun e => ?_, fun e => ?_⟩
  · exact disk_New.J1_of (br_true rfl (k0 (.inl (of_decide_eq_true e))))
  · have h1 := of_decide_eq_false e
    dsimp only
    by_cases h2 : room > 4194304
    · rw [decide_eq_true h2]
      exact disk_New.J1_of (br_true rfl (k0 (.inr h2)))
    · rw [decide_eq_false h2]
      exact good (by omega) (by omega)
theorem Create_hs {p : Nat} {d : DS} {n : Nm} (hd : DI d) (hb : d.steps < 2 ^ 40) (hn : n.size < 2 ^ 60) (H : Hs h (diskA p d :: L)) (kk : ∀ h', Hs h' (diskA p (d.create n).1 :: L) → Q (.int .i64 (d.create n).2) h') :
    SpecH PP F_disk_Disk_Create [.pointer (some ⟨p, 0, none⟩), .string n] h Q := by
  obtain ⟨l, mn, ms, rn, rs, a, c, lk, H1⟩ := diskA_open.1 H
  unfold DS.create at kk
  refine disk_Disk_Create.door (ready_hs H1 ⟨_, rfl, ?_⟩)
  cases hdn : d.down with
  | true =>
    rw [if_pos hdn] at kk
    exact br_true rfl (kk h H)
  | false =>
    rw [if_neg (by rw [hdn]; simp)] at kk
    refine br_false rfl ⟨_, H1.cell (off := 1) rfl, ?_⟩
    refine H1.m1.lookup2 U_disk_names Ky_str z_fp n ?_
    have hg : mget mn n = (d.find n).map (blk l) := by rw [mget_congr lk.n (by rw [nmV_keys]; exact hd.keys), nmV_get]; rfl
    have fin : ∀ (x : OA) (t : Bool), t = (d.find n).isSome → ∃ (t19 : OA) (t19_1 : Bool), Value.tuple #[.pointer x, .bool t] = (.tuple #[(.pointer t19), (.bool t19_1)]) ∧
        SpecH PP F_disk_good [(.string n)] h (fun v_2 h3 => ∃ (t24 : Bool), v_2 = (.bool t24) ∧
        let t25 : Bool := (!t24)
        br t25 (Q (.int .i64 90) h3) (br t19_1 (Q (.int .i64 91) h3) (∃ (t32 : ON), cellH h3 (Addr.add ⟨p, 0, none⟩ 1) = some (.map t32) ∧
        hwp PP (Builtin.len_ #[T_disk_names] T_int #[(.map t32)]) (fun v_3 h4 => ∃ (t33 : Int), v_3 = (.int .i64 t33) ∧
        let t34 : Bool := decide (t33 ≥ 64)
        br t34 (Q (.int .i64 95) h4) (
        let t38 : Addr := ⟨Array.size h4, 0, none⟩
        let h5 : Heap := Array.push h4 (.cells #[(.slice none 0 0), (.int .i64 0)] T_disk_file (0, 0))
        SpecH PP F_disk_Disk_change [(.pointer (some ⟨p, 0, none⟩)), (.agg #[(.string (⟨#[]⟩ : ByteArray)), (.string n), (.pointer (some t38))])] h5 (fun v_4 h6 => ∃ (t40 : Int), v_4 = (.int .i64 t40) ∧
        Q (.int .i64 t40) h6))) h3))) := by
      intro x t ht
      refine ⟨_, _, rfl, good_hs hn H1 fun h2 H2 => ⟨_, rfl, ?_⟩⟩
      dsimp only
      have Hd := diskA_open.2 ⟨l, mn, ms, rn, rs, a, c, lk, H2⟩
      refine (br_iff _ _ _).2 ⟨fun e => ?_, fun e => ?_⟩
      · have e : good n = false := by simpa using e
        rw [if_pos e] at kk; exact kk _ Hd
      have e : good n = true := by simpa using e
      rw [if_neg (by rw [e]; simp)] at kk
      refine (br_iff _ _ _).2 ⟨fun e2 => ?_, fun e2 => ?_⟩
      · rw [if_pos (by rw [← ht]; exact e2)] at kk; exact kk _ Hd
      rw [if_neg (by rw [← ht, e2]; simp)] at kk
      refine ⟨_, H2.cell (off := 1) rfl, ?_⟩
      refine H2.m1.mlen U_disk_names ⟨_, rfl, ?_⟩
      have hlen : mn.length = d.now.length := by have := lk.n.length_eq; simpa [nmV] using this
      refine (br_iff _ _ _).2 ⟨fun e3 => ?_, fun e3 => ?_⟩
      · have e3 := of_decide_eq_true e3
        rw [if_pos (by omega)] at kk; exact kk _ Hd
      have e3 := of_decide_eq_false e3
      rw [if_neg (by omega)] at kk
      have hne : n ≠ e0 := by unfold good at e; simp at e; exact e.1.2
      have H3 := (H2.own_nil T_uint8 1).new (t := T_disk_file) (cs := #[.slice none 0 0, .int .i64 0]) (xs := [.slice none 0 0, .int .i64 0])
      generalize Array.size h2 = k at H3 ⊢
      generalize Array.push h2 _ = h3 at H3 ⊢
      have hnone : mget l d.files.length = none := by
        cases q : mget l d.files.length with
        | none => rfl
        | some x => have := (lk.fl _ x.1 x.2 q).1; omega
      have H4 : Hs h3 (filB (k, fil0) :: _) := filB_open.2 ⟨none, 0, 0, H3⟩
      have H5 := H4.sel 6 [0, 5, 1, 2, 3, 4]
      have H6 : Hs h3 (fam filB (mset l d.files.length (k, fil0)) :: _) := Hs.fam_put (k := d.files.length) (x := (k, fil0)) (by rw [mdel_none hnone]; exact H5) lk.nd
      have hb2 : blk (mset l d.files.length (k, fil0)) d.files.length = k := by unfold blk; rw [mget_mset, if_pos rfl]; rfl
      have hcs : d.chg.flatMap (chV (mset l d.files.length (k, fil0))) = d.chg.flatMap (chV l) := chVs_congr fun c hc q => by
        have := lk.lt (lk.hc c hc q)
        unfold blk; rw [mget_mset, if_neg (by omega)]
      rw [← hcs] at H6
      have hcp : (some ⟨k, 0, none⟩ : OA) = cptr (mset l d.files.length (k, fil0)) ⟨e0, n, d.files.length⟩ := by unfold cptr; rw [if_neg hne, hb2]
      rw [hcp]
      refine change_hs (d := { d with files := d.files ++ [fil0] }) (cg := ⟨e0, n, d.files.length⟩) hdn hb hd.cl hd.lf (lk.add k) hd.keys (fun _ => by rw [mget_mset, if_pos rfl]; simp) (H6.sel 5 [1, 2, 3, 4, 0]) fun h6 H7 => ⟨_, rfl, kk h6 H7⟩
    cases hf : d.find n with
    | none => rw [hg, hf]; exact fin none false (by rw [hf]; rfl)
    | some i => rw [hg, hf]; exact fin (some ⟨blk l i, 0, none⟩) true (by rw [hf]; rfl)
end Go.Proofs.Ytkogmkajhjmkeaa

set_option maxRecDepth 20000
set_option linter.unusedVariables false
set_option linter.unusedSimpArgs false
namespace Go.Proofs.Ytkogmkajhjmkeaa
open Go Go.HW
variable {h : Heap} {L : List Assn} {Q : Value → Heap → Prop} {p : Nat} {d : DS} {n : Nm}
theorem Steps_hs (H : Hs h (diskA p d :: L)) (k : Q (.int .i64 (d.steps : Nat)) h) : SpecH PP F_disk_Disk_Steps [.pointer (some ⟨p, 0, none⟩)] h Q := by
  obtain ⟨l, mn, ms, rn, rs, a, c, lk, H1⟩ := diskA_open.1 H
  exact disk_Disk_Steps.door (br_false rfl ⟨_, H1.cell (off := 4) rfl, k⟩)
theorem DDown_hs (H : Hs h (diskA p d :: L)) (k : Q (.bool d.down) h) : SpecH PP F_disk_Disk_Down [.pointer (some ⟨p, 0, none⟩)] h Q := by
  obtain ⟨l, mn, ms, rn, rs, a, c, lk, H1⟩ := diskA_open.1 H
  exact Down_hs H1 k
theorem Stop_hs {s : Int} (hs : s < 2 ^ 63) (H : Hs h (diskA p d :: L)) (kk : ∀ h', Hs h' (diskA p (d.stop s).1 :: L) → Q (.int .i64 (d.stop s).2) h') : SpecH PP F_disk_Disk_Stop [.pointer (some ⟨p, 0, none⟩), .int .i64 s] h Q := by
  obtain ⟨l, mn, ms, rn, rs, a, c, lk, H1⟩ := diskA_open.1 H
  unfold DS.stop at kk
  refine disk_Disk_Stop.door (ready_hs H1 ⟨_, rfl, ?_⟩)
  cases hdn : d.down with
  | true => rw [if_pos hdn] at kk; exact br_true rfl (kk h H)
  | false =>
    rw [if_neg (by rw [hdn]; simp)] at kk
    refine br_false rfl ((br_iff _ _ _).2 ⟨fun e => ?_, fun e => ?_⟩)
    · have e := of_decide_eq_true e
      rw [if_pos e] at kk; exact kk h H
    · have e := of_decide_eq_false e
      rw [if_neg e] at kk
      refine H1.sto (off := 5) (by simp [dkV]) fun h2 H2 => ?_
      refine H2.sto (off := 6) (by simp [dkV]) fun h3 H3 => ?_
      refine kk h3 (diskA_open.2 ⟨l, mn, ms, rn, rs, a, c, ⟨lk.nd, lk.fl, lk.n, lk.s, lk.hn, lk.hs, lk.hc⟩, ?_⟩)
      have e2 : ((dkV d rn rs a c).set 5 (.bool true)).set 6 (.int .i64 s) = dkV { d with left := some s.toNat } rn rs a c := by
        simp [dkV]; omega
      rw [e2] at H3; exact H3
theorem Rename_hs {m : Nm} (hd : DI d) (hb : d.steps < 2 ^ 40) (hm : m.size < 2 ^ 60) (H : Hs h (diskA p d :: L)) (kk : ∀ h', Hs h' (diskA p (d.rename n m).1 :: L) → Q (.int .i64 (d.rename n m).2) h') :
    SpecH PP F_disk_Disk_Rename [.pointer (some ⟨p, 0, none⟩), .string n, .string m] h Q := by
  obtain ⟨l, mn, ms, rn, rs, a, c, lk, H1⟩ := diskA_open.1 H
  unfold DS.rename at kk
  refine disk_Disk_Rename.door (find_hs lk.n hd.keys H1 (fun e => ?_) (fun e e2 => ?_) (fun i e e2 => ?_))
  · rw [if_pos e] at kk; exact ⟨_, _, rfl, br_true rfl (kk h H)⟩
  · rw [if_neg (by rw [e]; simp), e2] at kk; exact ⟨_, _, rfl, br_true rfl (kk h H)⟩
  rw [if_neg (by rw [e]; simp), e2] at kk
  refine ⟨_, _, rfl, br_false rfl (good_hs hm H1 fun h2 H2 => ⟨_, rfl, ?_⟩)⟩
  refine (br_iff _ _ _).2 ⟨fun q => ?_, fun q => ?_⟩
  · have q : good m = false := by simpa using q
    simp only [q, if_true] at kk
    exact kk h2 (diskA_open.2 ⟨l, mn, ms, rn, rs, a, c, lk, H2⟩)
  have q : good m = true := by simpa using q
  simp only [q, Bool.true_eq_false, if_false] at kk
  have hne : m ≠ e0 := by unfold good at q; simp at q; exact q.1.2
  have hi : mget l i ≠ none := lk.hn (n, i) (mget_mem e2)
  have hcp : (some ⟨blk l i, 0, none⟩ : OA) = cptr l ⟨n, m, i⟩ := by unfold cptr; rw [if_neg hne]
  rw [hcp]
  exact change_hs (cg := ⟨n, m, i⟩) e hb hd.cl hd.lf lk hd.keys (fun _ => hi) H2 fun h6 H7 => ⟨_, rfl, kk h6 H7⟩
theorem Remove_hs (hd : DI d) (hb : d.steps < 2 ^ 40) (H : Hs h (diskA p d :: L)) (kk : ∀ h', Hs h' (diskA p (d.remove n).1 :: L) → Q (.int .i64 (d.remove n).2) h') :
    SpecH PP F_disk_Disk_Remove [.pointer (some ⟨p, 0, none⟩), .string n] h Q := by
  obtain ⟨l, mn, ms, rn, rs, a, c, lk, H1⟩ := diskA_open.1 H
  unfold DS.remove at kk
  refine disk_Disk_Remove.door (find_hs lk.n hd.keys H1 (fun e => ?_) (fun e e2 => ?_) (fun i e e2 => ?_))
  · rw [if_pos e] at kk; exact ⟨_, _, rfl, br_true rfl (kk h H)⟩
  · rw [if_neg (by rw [e]; simp), e2] at kk; exact ⟨_, _, rfl, br_true rfl (kk h H)⟩
  rw [if_neg (by rw [e]; simp), e2] at kk
  refine ⟨_, _, rfl, br_false rfl ?_⟩
  exact change_hs (cg := ⟨n, e0, 0⟩) e hb hd.cl hd.lf lk hd.keys (fun q => absurd rfl q) H1 fun h6 H7 => ⟨_, rfl, kk h6 H7⟩
/-- maps.Clone of names. -/
theorem MClone_hs {r : Nat} {m : List (Nm × Nat)} (H : Hs h (mp Value.string ptrV r m :: L)) (kk : ∀ h' r', Hs h' (mp Value.string ptrV r' m :: mp Value.string ptrV r m :: L) → Q (.map (some r')) h') : SpecH PP F_maps_Clone_disk_names_string_disk_file [.map (some r)] h Q := by
  refine maps_Clone_disk_names_string_disk_file.door (br_false rfl ?_)
  refine callV_ext (f := F_maps_clone) (fn := Try.f70) Try.func70 (by kernel_rfl) (by kernel_rfl) (by kernel_rfl) (e := Extern.MapsClone.clone) (by kernel_rfl) ?_
  refine H.mclone fun h' r' H' => ⟨_, rfl, ?_⟩
  exact hwp_asMap U_disk_names ⟨_, rfl, kk h' r' H'⟩
theorem SyncDir_hs (hd : DI d) (hb : d.steps < 2 ^ 40) (H : Hs h (diskA p d :: L)) (kk : ∀ h', Hs h' (diskA p d.syncdir.1 :: L) → Q (.int .i64 d.syncdir.2) h') :
    SpecH PP F_disk_Disk_SyncDir [.pointer (some ⟨p, 0, none⟩)] h Q := by
  obtain ⟨l, mn, ms, rn, rs, a, c, lk, H1⟩ := diskA_open.1 H
  unfold DS.syncdir at kk
  refine disk_Disk_SyncDir.door (ready_hs H1 ⟨_, rfl, ?_⟩)
  cases hdn : d.down with
  | true => rw [if_pos hdn] at kk; exact br_true rfl (kk h H)
  | false =>
    rw [if_neg (by rw [hdn]; simp)] at kk
    refine br_false rfl ⟨_, H1.cell (off := 1) rfl, ?_⟩
    refine MClone_hs H1.m1 fun h2 r2 H2 => ⟨_, rfl, ?_⟩
    refine H2.m2.sto (off := 2) (by simp [dkV]) fun h3 H3 => ?_
    refine H3.sto (off := 3) (by simp [dkV]) fun h4 H4 => ?_
    have e2 : ((dkV d rn rs a c).set 2 (.map (some r2))).set 3 (.slice none 0 0) = dkV { d with safe := d.now, chg := [] } rn r2 none 0 := by simp [dkV]
    rw [e2] at H4
    refine done_hs (d := { d with safe := d.now, chg := [] }) hdn (show d.steps < 2 ^ 62 by omega) hd.lf H4 fun h5 H5 => ⟨_, rfl, kk h5 (diskA_open.2 ⟨l, mn, mn, rn, r2, none, 0, ⟨lk.nd, lk.fl, lk.n, lk.n, lk.hn, lk.hn, nofun⟩, ?_⟩)⟩
    exact (H5.own_nil T_disk_change 3).sel 7 [1, 3, 2, 0, 6]
theorem cloneB_hs {a : OA} {m c : Nat} {bs : List Nat} (g : Gv L a (nV bs)) (hm : bs.length = m) (hb : m < 2 ^ 40) (hn : a = none → m = 0) (H : Hs h L) (kk : ∀ h' a' c', Hs h' (own a' m c' T_uint8 1 (nV bs) :: L) → Q (.slice a' m c') h') :
    SpecH PP F_slices_Clone_byte_byte [.slice a m c] h Q := by
  refine slices_Clone_byte_byte.door ?_
  cases a with
  | none =>
    have : m = 0 := hn rfl
    subst this
    have : bs = [] := List.length_eq_zero_iff.1 hm
    subst this
    exact br_true rfl (kk h none 0 (H.own_nil _ _))
  | some a =>
    refine br_false rfl ?_
    have H1 := H.new (t := T_uint8) (cs := #[]) (xs := [])
    have H2 := H1.pt_own (n := 0) (c := 0) (sz := 1) (xs := []) 0 rfl rfl (Nat.le_refl _) (by simp)
    refine H2.app_sl E_sl_uint8 (m := m) (ys := nV bs) (g _ H1.tl) (by rw [nV_len]; omega) (fun e => nomatch e) (nV_one _) (fun h3 a' c' H3 => ⟨_, _, _, rfl, ?_⟩) (by omega) (by omega)
    rw [Nat.zero_add, List.nil_append] at H3
    rw [Nat.zero_add]
    exact kk h3 a' c' H3
theorem own_none_len {L : List Assn} {h : Heap} {a : OA} {m c : Nat} {e : TypeId} {sz : Nat} {xs : List Value} (H : Hs h (own a m c e sz xs :: L)) : a = none → m = 0 := fun q => by
  subst q; have := H.own_none; have := H.own_le; omega
theorem lkfil {l : FM} {mn ms : List (Nm × Nat)} (lk : LkD d l mn ms) {i : Nat} (e : d.find n = some i) : mget l i = some (blk l i, d.fl i) := by
  have := lk.hn (n, i) (mget_mem e)
  cases q : mget l i with
  | none => exact absurd q this
  | some x =>
    have h2 := (lk.fl i x.1 x.2 q).2
    unfold blk; rw [q, h2]; rfl
theorem Read_hs (hd : DI d) (H : Hs h (diskA p d :: L)) (kk : ∀ h' a c, Hs h' (own a (d.read n).1.length c T_uint8 1 (nV (d.read n).1) :: diskA p d :: L) → Q (.tuple #[.slice a (d.read n).1.length c, .int .i64 (d.read n).2]) h') :
    SpecH PP F_disk_Disk_Read [.pointer (some ⟨p, 0, none⟩), .string n] h Q := by
  obtain ⟨l, mn, ms, rn, rs, a, c, lk, H1⟩ := diskA_open.1 H
  unfold DS.read at kk
  refine disk_Disk_Read.door (find_hs lk.n hd.keys H1 (fun e => ?_) (fun e e2 => ?_) (fun i e e2 => ?_))
  · rw [if_pos e] at kk; exact ⟨_, _, rfl, br_true rfl (kk h none 0 (H.own_nil _ _))⟩
  · rw [if_neg (by rw [e]; simp), e2] at kk; exact ⟨_, _, rfl, br_true rfl (kk h none 0 (H.own_nil _ _))⟩
  rw [if_neg (by rw [e]; simp), e2] at kk
  have hf := lkfil lk e2
  obtain ⟨a1, n1, c1, H2⟩ := fil_at lk.nd hf H1.m4
  have hl := H2.m1.own_len
  rw [nV_len, Nat.mul_one] at hl
  refine ⟨_, _, rfl, br_false rfl ⟨_, _, _, H2.cell (off := 0) rfl, ?_⟩⟩
  subst hl
  refine cloneB_hs (L := own a1 (d.fl i).bs.length c1 T_uint8 1 (nV (d.fl i).bs) :: _) Gv.own rfl (by have := (hd.fl_ok i).2; omega) (own_none_len H2.m1) H2.m1 fun h3 a3 c3 H3 => ⟨_, _, _, rfl, kk h3 a3 c3 ?_⟩
  have H4 := (filB_open (x := (blk l i, d.fl i))).2 ⟨a1, _, c1, H3.sel 3 [2, 1, 0]⟩
  have H5 := Hs.fam_back (k := i) (x := (blk l i, d.fl i)) (H4.sel 3 [0, 2, 1]) lk.nd hf
  exact (diskA_open.2 ⟨l, mn, ms, rn, rs, a, c, lk, H5.sel 6 [2, 3, 4, 5, 0, 1]⟩).m1
theorem Sync_hs (hd : DI d) (hb : d.steps < 2 ^ 40) (H : Hs h (diskA p d :: L)) (kk : ∀ h', Hs h' (diskA p (d.sync n).1 :: L) → Q (.int .i64 (d.sync n).2) h') :
    SpecH PP F_disk_Disk_Sync [.pointer (some ⟨p, 0, none⟩), .string n] h Q := by
  obtain ⟨l, mn, ms, rn, rs, a, c, lk, H1⟩ := diskA_open.1 H
  unfold DS.sync at kk
  refine disk_Disk_Sync.door (find_hs lk.n hd.keys H1 (fun e => ?_) (fun e e2 => ?_) (fun i e e2 => ?_))
  · rw [if_pos e] at kk; exact ⟨_, _, rfl, br_true rfl (kk h H)⟩
  · rw [if_neg (by rw [e]; simp), e2] at kk; exact ⟨_, _, rfl, br_true rfl (kk h H)⟩
  rw [if_neg (by rw [e]; simp), e2] at kk
  have hf := lkfil lk e2
  obtain ⟨a1, n1, c1, H2⟩ := fil_at lk.nd hf H1.m4
  have hl := H2.m1.own_len
  rw [nV_len, Nat.mul_one] at hl
  refine ⟨_, _, rfl, br_false rfl ⟨_, _, _, H2.cell (off := 0) rfl, ?_⟩⟩
  subst hl
  refine H2.sto (off := 1) (by simp) fun h3 H3 => ?_
  refine done_hs e (by omega) hd.lf H3.m3 fun h4 H4 => ⟨_, rfl, kk h4 (diskA_open.2 ⟨mset l i (blk l i, ⟨(d.fl i).bs, (d.fl i).bs.length⟩), mn, ms, rn, rs, a, c, (lk.setf hf _).tick, ?_⟩)⟩
  have H5 := (filB_open (x := (blk l i, ⟨(d.fl i).bs, (d.fl i).bs.length⟩))).2 ⟨a1, _, c1, H4.sel 3 [1, 2, 0]⟩
  have H6 := Hs.fam_put (k := i) (x := (blk l i, ⟨(d.fl i).bs, (d.fl i).bs.length⟩)) (H5.sel 3 [0, 2, 1]) lk.nd
  have hcs : (d.chg.flatMap (chV (mset l i (blk l i, ⟨(d.fl i).bs, (d.fl i).bs.length⟩)))) = d.chg.flatMap (chV l) := chVs_congr fun c _ _ => blk_set hf _
  show Hs h4 (pt p T_disk_Disk (dkV d.tick rn rs a c) :: mp Value.string ptrV rn mn :: mp Value.string ptrV rs ms :: own a d.chg.length c T_disk_change 3 (d.chg.flatMap (chV (mset l i (blk l i, ⟨(d.fl i).bs, (d.fl i).bs.length⟩)))) :: fam filB (mset l i (blk l i, ⟨(d.fl i).bs, (d.fl i).bs.length⟩)) :: L)
  rw [hcs]
  exact H6.sel 5 [1, 2, 3, 4, 0]
end Go.Proofs.Ytkogmkajhjmkeaa

set_option maxRecDepth 20000
set_option linter.unusedVariables false
set_option linter.unusedSimpArgs false
namespace Go.Proofs.Ytkogmkajhjmkeaa
open Go Go.HW
variable {h : Heap} {L : List Assn} {Q : Value → Heap → Prop} {p : Nat} {d : DS} {n : Nm}
theorem sum_perm {l m : List Nat} (p : l.Perm m) : l.sum = m.sum := by
  induction p with
  | nil => rfl
  | cons x p ih => rw [List.sum_cons, List.sum_cons, ih]
  | swap x y l => simp only [List.sum_cons]; omega
  | trans p q h1 h2 => rw [h1, h2]
theorem sum_le {α : Type} {f : α → Nat} {b : Nat} : ∀ {l : List α}, (∀ x ∈ l, f x ≤ b) → (l.map f).sum ≤ l.length * b
  | [], _ => by simp
  | x :: l, h => by
    have := sum_le (l := l) fun y hy => h y (List.mem_cons_of_mem _ hy)
    have := h x (List.mem_cons_self ..)
    rw [List.map_cons, List.sum_cons, List.length_cons, Nat.add_mul]; omega
theorem used_le (hd : DI d) (hb : d.steps < 2 ^ 38) : sumL d d.now ≤ 2 ^ 61 := by
  have h1 : sumL d d.now ≤ d.now.length * 4194304 := sum_le fun x _ => (hd.fl_ok x.2).2
  have h2 := hd.lenn
  have h3 := hd.fl
  have : d.now.length * 4194304 ≤ 2 ^ 38 * 4194304 := Nat.mul_le_mul_right _ (by omega)
  omega
/-- The length of what stands behind a name. -/
def lenAt (d : DS) (y : Nm × Nat) : Nat := (d.fl ((mget d.now y.1).getD 0)).bs.length
theorem lenAt_sum {l : FM} {m : List (Nm × Nat)} (hk : (d.now.map (·.1)).Nodup) (p : m.Perm (nmV l d.now)) : (m.map (lenAt d)).sum = sumL d d.now := by
  rw [sum_perm (p.map _)]
  unfold nmV sumL
  rw [List.map_map]
  congr 1
  refine List.map_congr_left fun x hx => ?_
  show (d.fl ((mget d.now x.1).getD 0)).bs.length = _
  rw [mget_of_mem hk (show (x.1, x.2) ∈ d.now from hx)]; rfl
theorem Used_open {l : FM} {mn ms : List (Nm × Nat)} {rn rs : Nat} {a : OA} {c : Nat} (hd : DI d) (hb : d.steps < 2 ^ 38) (lk : LkD d l mn ms)
    (H : Hs h (pt p T_disk_Disk (dkV d rn rs a c) :: mp Value.string ptrV rn mn :: fam filB l :: L))
    (kk : ∀ h', Hs h' (pt p T_disk_Disk (dkV d rn rs a c) :: mp Value.string ptrV rn mn :: fam filB l :: L) → Q (.int .i64 (d.used : Nat)) h') :
    SpecH PP F_disk_Disk_Used [.pointer (some ⟨p, 0, none⟩)] h Q := by
  refine disk_Disk_Used.door (ready_hs H ⟨_, rfl, ?_⟩)
  unfold DS.used at kk
  cases hdn : d.down with
  | true => rw [if_pos hdn] at kk; exact br_true rfl (kk h H)
  | false =>
    rw [if_neg (by rw [hdn]; simp)] at kk
    refine br_false rfl ⟨_, H.cell (off := 1) rfl, ?_⟩
    refine H.m1.range U_disk_names fun h1 i H1 => ⟨_, rfl, ?_⟩
    have htot := lenAt_sum hd.keys lk.n
    have hle := used_le hd hb
    have go : ∀ (k : Nat) {h : Heap} {done todo : List (Nm × Nat)} {s : Nat}, todo.length = k → s = (done.map (lenAt d)).sum → Hs h (rgn Value.string ptrV rn i mn done todo :: pt p T_disk_Disk (dkV d rn rs a c) :: fam filB l :: L) →
        disk_Disk_Used.L1 (s : Nat) (.pointer (some ⟨i, 0, none⟩)) (disk_Disk_Used.K1 Q) h := by
      intro k
      induction k with
      | zero =>
        intro h done todo s hk hs H
        have : todo = [] := List.length_eq_zero_iff.1 hk
        subst this
        refine disk_Disk_Used.L1_of (H.next (fun _ => ⟨false, [], rfl, br_false rfl (disk_Disk_Used.L1_X0 ?_)⟩) (fun h' x todo' p _ => by simp at p))
        have hp := H.rgn_perm
        rw [List.append_nil] at hp
        have : s = sumL d d.now := by rw [hs, sum_perm (hp.map _), htot]
        rw [this]
        exact kk h (H.rgn_end.sel 2 [1, 0])
      | succ k ih =>
        intro h done todo s hk hs H
        refine disk_Disk_Used.L1_of (H.next (fun e => by rw [e] at hk; cases hk) (fun h2 x todo' q H2 => ⟨true, [.string x.1, ptrV x.2], rfl, br_true rfl ?_⟩))
        refine H2.entry ⟨_, _, rfl, _, rfl, ?_⟩
        have hp := H2.rgn_perm
        have hx : x ∈ mn := hp.mem_iff.1 (by simp)
        have hx2 := lk.n.mem_iff.1 hx
        obtain ⟨y, hy, rfl⟩ := List.mem_map.1 hx2
        have hf : d.find y.1 = some y.2 := mget_of_mem hd.keys hy
        have hf2 := lkfil lk hf
        obtain ⟨a1, n1, c1, H3⟩ := fil_at lk.nd hf2 H2.m2
        have hl := H3.m1.own_len
        rw [nV_len, Nat.mul_one] at hl
        subst hl
        refine ⟨_, _, _, H3.cell (off := 0) rfl, ?_⟩
        have hlen : lenAt d (y.1, blk l y.2) = (d.fl y.2).bs.length := by
          show (d.fl ((mget d.now y.1).getD 0)).bs.length = _
          rw [show mget d.now y.1 = some y.2 from hf]; rfl
        have hs2 : s + (d.fl y.2).bs.length = ((done ++ [(y.1, blk l y.2)]).map (lenAt d)).sum := by
          rw [List.map_append, List.sum_append, ← hs, ← hlen]; simp
        have hb2 : s + (d.fl y.2).bs.length ≤ 2 ^ 61 := by
          have e := sum_perm (hp.map (lenAt d))
          rw [List.map_append, List.sum_append, htot, ← hs2] at e
          omega
        have ew : IntKind.i64.wrap ((s : Int) + ((d.fl y.2).bs.length : Int)) = ((s + (d.fl y.2).bs.length : Nat) : Int) := by rw [wrap_i64_z (by omega) (by omega)]; simp
        rw [ew]
        exact ih (done := done ++ [(y.1, blk l y.2)]) (todo := todo') (by have := q.length_eq; simp at this; omega) hs2 H2
    exact go mn.length (done := []) (s := 0) rfl rfl H1
theorem Used_hs (hd : DI d) (hb : d.steps < 2 ^ 38) (H : Hs h (diskA p d :: L)) (kk : ∀ h', Hs h' (diskA p d :: L) → Q (.int .i64 (d.used : Nat)) h') :
    SpecH PP F_disk_Disk_Used [.pointer (some ⟨p, 0, none⟩)] h Q := by
  obtain ⟨l, mn, ms, rn, rs, a, c, lk, H1⟩ := diskA_open.1 H
  exact Used_open hd hb lk (H1.sel 5 [0, 1, 4, 2, 3]) fun h' H' => kk h' (diskA_open.2 ⟨l, mn, ms, rn, rs, a, c, lk, H'.sel 5 [0, 1, 3, 4, 2]⟩)
theorem Names_hs (hd : DI d) (hb : d.steps < 2 ^ 38) (H : Hs h (diskA p d :: L)) (kk : ∀ h' a c, Hs h' (own a d.names.length c T_string 1 (d.names.map Value.string) :: diskA p d :: L) → Q (.slice a d.names.length c) h') :
    SpecH PP F_disk_Disk_Names [.pointer (some ⟨p, 0, none⟩)] h Q := by
  obtain ⟨l, mn, ms, rn, rs, a, c, lk, H1⟩ := diskA_open.1 H
  unfold DS.names at kk
  refine disk_Disk_Names.door (ready_hs H1 ⟨_, rfl, ?_⟩)
  cases hdn : d.down with
  | true => rw [if_pos hdn] at kk; exact br_true rfl (kk h none 0 (H.own_nil _ _))
  | false =>
    rw [if_neg (by rw [hdn]; simp)] at kk
    refine br_false rfl ⟨_, H1.cell (off := 1) rfl, ?_⟩
    refine Keys_hs H1 fun h2 t1 H2 => ⟨_, rfl, ?_⟩
    have hpk : (mn.map (·.1)).Perm (d.now.map (·.1)) := by have := lk.n.map (·.1); rwa [nmV_keys] at this
    have hl : mn.length = d.now.length := by have := hpk.length_eq; simpa using this
    refine Sorted_hs (by have := hd.lenn; have := hd.fl; omega) (hpk.nodup_iff.2 hd.keys) (H2.sel 3 [0, 2, 1]) fun h3 a3 c3 ns hp ho H3 => ⟨_, _, _, rfl, ?_⟩
    have e : ns = d.now.map (·.1) := rise_uniq ho (by rw [List.pairwise_map]; exact hd.risn) (hp.trans hpk)
    subst e
    exact kk h3 a3 c3 ((diskA_open.2 ⟨l, mn, ms, rn, rs, a, c, lk, H3.sel 6 [2, 1, 3, 4, 5, 0]⟩).m1)
theorem Append_hs {b : OA} {m bc : Nat} {bs : List Nat} (hd : DI d) (hb : d.steps < 2 ^ 38) (g : Gv L b (nV bs)) (hm : bs.length = m) (hm2 : m < 2 ^ 40) (hm0 : b = none → m = 0) (H : Hs h (diskA p d :: L))
    (kk : ∀ h', Hs h' (diskA p (d.append n bs).1 :: L) → Q (.int .i64 (d.append n bs).2) h') :
    SpecH PP F_disk_Disk_Append [.pointer (some ⟨p, 0, none⟩), .string n, .slice b m bc] h Q := by
  obtain ⟨l, mn, ms, rn, rs, a, c, lk, H1⟩ := diskA_open.1 H
  unfold DS.append at kk
  refine disk_Disk_Append.door (find_hs lk.n hd.keys H1 (fun e => ?_) (fun e e2 => ?_) (fun i e e2 => ?_))
  · rw [if_pos e] at kk; exact ⟨_, _, rfl, br_true rfl (kk h H)⟩
  · rw [if_neg (by rw [e]; simp), e2] at kk; exact ⟨_, _, rfl, br_true rfl (kk h H)⟩
  rw [if_neg (by rw [e]; simp), e2] at kk
  refine ⟨_, _, rfl, br_false rfl ?_⟩
  have hu : d.used ≤ 2 ^ 61 := by unfold DS.used; rw [if_neg (by rw [e]; simp)]; exact used_le hd hb
  have hr := hd.room
  have ew : IntKind.i64.wrap ((d.room : Int) - ((d.used : Nat) : Int)) = (d.room : Int) - d.used := wrap_i64_z (by omega) (by omega)
  have fin : ∀ {h : Heap}, Hs h (pt p T_disk_Disk (dkV d rn rs a c) :: mp Value.string ptrV rn mn :: fam filB l :: mp Value.string ptrV rs ms :: own a d.chg.length c T_disk_change 3 (d.chg.flatMap (chV l)) :: L) →
      disk_Disk_Append.J1 (some ⟨p, 0, none⟩) b m bc (some ⟨blk l i, 0, none⟩) (decide ((m : Int) > (d.room : Int) - d.used)) Q h := by
    intro h H1
    refine disk_Disk_Append.J1_of ((br_iff _ _ _).2 ⟨fun q => ?_, fun q => ?_⟩)
    · have q := of_decide_eq_true q
      simp only [if_pos (show (d.room : Int) - d.used < bs.length by rw [hm]; omega)] at kk
      exact kk h (diskA_open.2 ⟨l, mn, ms, rn, rs, a, c, lk, H1.sel 5 [0, 1, 3, 4, 2]⟩)
    have q := of_decide_eq_false q
    simp only [if_neg (show ¬ (d.room : Int) - d.used < bs.length by rw [hm]; omega)] at kk
    have hf := lkfil lk e2
    obtain ⟨a1, n1, c1, H2⟩ := fil_at lk.nd hf H1.m2
    have hl := H2.m1.own_len
    rw [nV_len, Nat.mul_one] at hl
    subst hl
    refine ⟨_, _, _, H2.cell (off := 0) rfl, _, _, _, H2.cell (off := 0) rfl, _, _, _, H2.cell (off := 0) rfl, ?_⟩
    refine slice_full E_sl_uint8 H2.m1.own_le ⟨_, _, _, rfl, ?_⟩
    have H3 := H2.m1.own_full
    have hfl := (hd.fl_ok i).2
    have hgL := g _ (H1.sel 5 [])
    refine H3.app_sl E_sl_uint8 (m := m) (ys := nV bs) hgL (by rw [nV_len]; omega) hm0 (nV_one _) (fun h3 a' c' H4 => ⟨_, _, _, rfl, ?_⟩) (by omega) (by omega)
    refine H4.m1.sto (off := 0) (by simp) fun h4 H5 => ?_
    have en : nV (d.fl i).bs ++ nV bs = nV ((d.fl i).bs ++ bs) := (nV_app _ _).symm
    rw [en] at H5
    refine done_hs e (by omega) hd.lf H5.m3 fun h5 H6 => ⟨_, rfl, kk h5 (diskA_open.2 ⟨mset l i (blk l i, ⟨(d.fl i).bs ++ bs, (d.fl i).safe⟩), mn, ms, rn, rs, a, c, (lk.setf hf _).tick, ?_⟩)⟩
    have ec : (d.fl i).bs.length + m = ((d.fl i).bs ++ bs).length := by rw [List.length_append, hm]
    rw [ec] at H6
    have H7 := (filB_open (x := (blk l i, ⟨(d.fl i).bs ++ bs, (d.fl i).safe⟩))).2 ⟨a', _, c', H6.sel 3 [1, 2, 0]⟩
    have H8 := Hs.fam_put (k := i) (x := (blk l i, ⟨(d.fl i).bs ++ bs, (d.fl i).safe⟩)) (H7.sel 3 [0, 2, 1]) lk.nd
    have hcs : (d.chg.flatMap (chV (mset l i (blk l i, ⟨(d.fl i).bs ++ bs, (d.fl i).safe⟩)))) = d.chg.flatMap (chV l) := chVs_congr fun c _ _ => blk_set hf _
    show Hs h5 (pt p T_disk_Disk (dkV d.tick rn rs a c) :: mp Value.string ptrV rn mn :: mp Value.string ptrV rs ms :: own a d.chg.length c T_disk_change 3 (d.chg.flatMap (chV (mset l i (blk l i, ⟨(d.fl i).bs ++ bs, (d.fl i).safe⟩)))) :: fam filB (mset l i (blk l i, ⟨(d.fl i).bs ++ bs, (d.fl i).safe⟩)) :: L)
    rw [hcs]
    exact H8.sel 5 [1, 2, 3, 4, 0]
  refine ⟨⟨_, H1.cell (off := 0) rfl, ?_⟩, ?_, trivial⟩
  · refine Used_open hd hb lk (H1.sel 5 [0, 1, 4, 2, 3]) fun h' H' => ⟨_, rfl, ?_⟩
    dsimp only
    rw [ew]; exact fin H'
  · refine Used_open hd hb lk (H1.sel 5 [0, 1, 4, 2, 3]) fun h' H' => ⟨_, rfl, _, H'.cell (off := 0) rfl, ?_⟩
    dsimp only
    rw [ew]; exact fin H'
end Go.Proofs.Ytkogmkajhjmkeaa

set_option maxRecDepth 20000
set_option linter.unusedVariables false
set_option linter.unusedSimpArgs false
namespace Go.Proofs.Ytkogmkajhjmkeaa
open Go Go.HW
variable {h : Heap} {L : List Assn} {Q : Value → Heap → Prop} {p : Nat} {d : DS} {n : Nm}
theorem Hs.one {A : Assn} (H : Hs h (A :: L)) : Hs h [A] := by
  obtain ⟨m1, m2, a, l, dj, s1, s2⟩ := H
  exact ⟨m1, fun _ => none, a, trivial, fun _ => .inr rfl, s1, fun _ _ e => nomatch e⟩
theorem Gv.one {A : Assn} {a : OA} {xs : List Value} (g : Gv [A] a xs) : Gv (A :: L) a xs := fun h H => g h (Hs.one H)
def zV (cs : List Int) : List Value := cs.map (Value.int .i64)
/-- Numbers that an int can be. -/
def I64 (cs : List Int) : Prop := ∀ c ∈ cs, -9223372036854775808 ≤ c ∧ c < 9223372036854775808
theorem I64.getD {cs : List Int} (h : I64 cs) (i : Nat) : -9223372036854775808 ≤ cs.getD i 0 ∧ cs.getD i 0 < 9223372036854775808 := by
  rw [List.getD_eq_getElem?_getD]
  cases e : cs[i]? with
  | none => simp
  | some c => simpa using h c (List.mem_of_getElem? e)
/-- The choices that are left. -/
def choA (k : Nat) (cs : List Int) (L : List Assn) : Assn := fun m => ∃ a n c, (Gv L a (zV cs) ∧ cs.length = n ∧ n ≤ c ∧ (a = none → c = 0)) ∧ pt k T_sl_int [.slice a n c] m
theorem choA_open {k : Nat} {cs : List Int} {M N : List Assn} : Hs h (choA k cs M :: N) ↔ ∃ a n c, (Gv M a (zV cs) ∧ cs.length = n ∧ n ≤ c ∧ (a = none → c = 0)) ∧ Hs h (pt k T_sl_int [.slice a n c] :: N) := by
  unfold choA
  simp only [Hs.ex, Hs.and]
theorem choice_hs {k : Nat} {cs : List Int} {N : List Assn} (H : Hs h (choA k cs L :: N)) (hL : Hs h L) (kk : ∀ h', Hs h' (choA k cs.tail L :: N) → Q (.int .i64 (cs.getD 0 0)) h') :
    callV PP (.func (.func F_disk_Disk_Crash_1) #[] #[.pointer (some ⟨k, 0, none⟩)]) [] Q h := by
  refine callV_fn (by kernel_rfl) ?_
  show SpecH PP F_disk_Disk_Crash_1 [_] h Q
  obtain ⟨a, n, c, ⟨g, hn, hnc, hn0⟩, H1⟩ := choA_open.1 H
  refine disk_Disk_Crash_1.door ⟨_, _, _, H1.cell (off := 0) rfl, ?_⟩
  cases cs with
  | nil =>
    subst hn
    exact br_true rfl (kk h H)
  | cons x cs =>
    subst hn
    refine br_false (by simp; try omega) ⟨_, _, _, H1.cell (off := 0) rfl, ?_⟩
    refine idx E_sl_int (xs := zV (x :: cs)) (v := .int .i64 x) (g h hL) (by omega) (by simp) rfl fun t ht => ⟨_, ht, ?_⟩
    refine ⟨_, _, _, H1.cell (off := 0) rfl, ?_⟩
    refine cutS E_sl_int (i := 1) (j := (x :: cs).length) g (by simp [zV]) hnc hn0 (by simp) (Nat.le_refl _) rfl rfl fun a' c' g' h1 h2 h3 => ⟨_, _, _, rfl, ?_⟩
    refine H1.sto (off := 0) (by simp) fun h3' H3 => ?_
    have eg : ((zV (x :: cs)).drop (1 * 1)).take (((x :: cs).length - 1) * 1) = zV cs := by
      simp only [zV, List.map_cons, Nat.mul_one, List.drop_succ_cons, List.drop_zero, List.length_cons, Nat.add_sub_cancel]
      exact List.take_of_length_le (by simp)
    rw [eg] at g'
    exact kk _ (choA_open.2 ⟨a', _, c', ⟨g', by simp, h2, h3⟩, H3⟩)
theorem says_le (c : Int) (n : Nat) : says c n ≤ n := by
  unfold says
  have : ∀ x : Int, 0 ≤ x → (x % ((n : Int) + 1)).toNat ≤ n := fun x hx => by
    have := Int.emod_lt_of_pos x (show (0 : Int) < (n : Int) + 1 by omega)
    omega
  split
  · exact this _ (by omega)
  · exact this _ (by omega)
/-- Names, of a disk that is in the middle of a crash. -/
theorem Names_open {now : List (Nm × Nat)} {l : FM} {mn : List (Nm × Nat)} {rn rs : Nat} {a : OA} {c : Nat} (hnd : d.down = false) (hm : mn.Perm (nmV l now)) (hr : Ris now) (hlen : now.length < 2 ^ 40) (H : Hs h (pt p T_disk_Disk (dkV d rn rs a c) :: mp Value.string ptrV rn mn :: L))
    (kk : ∀ h' a2 c2, Hs h' (own a2 now.length c2 T_string 1 (now.map fun x => Value.string x.1) :: pt p T_disk_Disk (dkV d rn rs a c) :: mp Value.string ptrV rn mn :: L) → Q (.slice a2 now.length c2) h') :
    SpecH PP F_disk_Disk_Names [.pointer (some ⟨p, 0, none⟩)] h Q := by
  refine disk_Disk_Names.door (ready_hs H ⟨_, rfl, ?_⟩)
  rw [if_neg (by rw [hnd]; simp)]
  refine br_false rfl ⟨_, H.cell (off := 1) rfl, ?_⟩
  refine Keys_hs H fun h2 t1 H2 => ⟨_, rfl, ?_⟩
  have hpk : (mn.map (·.1)).Perm (now.map (·.1)) := by have := hm.map (·.1); rwa [nmV_keys] at this
  have hl : mn.length = now.length := by have := hpk.length_eq; simpa using this
  refine Sorted_hs (by omega) (hpk.nodup_iff.2 hr.nodup) (H2.sel 3 [0, 2, 1]) fun h3 a3 c3 ns hp ho H3 => ⟨_, _, _, rfl, ?_⟩
  have e : ns = now.map (·.1) := rise_uniq ho (by rw [List.pairwise_map]; exact hr) (hp.trans hpk)
  subst e
  have := kk h3 a3 c3 (by rw [show (now.map fun x => Value.string x.1) = (now.map (·.1)).map Value.string by rw [List.map_map]; rfl]; rw [List.length_map] at H3; exact H3.sel 3 [0, 2, 1])
  rw [List.length_map]; exact this
theorem mset_nmV {l : FM} {m now : List (Nm × Nat)} {x : Nm × Nat} {k : Nat} {f : Fil} (hm : m.Perm (nmV l now)) (hk : (now.map (·.1)).Nodup) (hi : (now.map (·.2)).Nodup) (hx : x ∈ now) : (mset m x.1 k).Perm (nmV (mset l x.2 (k, f)) now) := by
  have hmk : (m.map (·.1)).Nodup := by rw [(hm.map _).nodup_iff, nmV_keys]; exact hk
  refine (mset_mdel_perm hmk).trans ?_
  have h1 := mget_perm hk (mget_of_mem hk (show (x.1, x.2) ∈ now from hx))
  have h2 : (nmV (mset l x.2 (k, f)) now).Perm (nmV (mset l x.2 (k, f)) ((x.1, x.2) :: mdel now x.1)) := h1.map _
  refine List.Perm.trans ?_ h2.symm
  show List.Perm _ ((x.1, blk (mset l x.2 (k, f)) x.2) :: nmV (mset l x.2 (k, f)) (mdel now x.1))
  have e1 : blk (mset l x.2 (k, f)) x.2 = k := by unfold blk; rw [mget_mset, if_pos rfl]; rfl
  have e2 : nmV (mset l x.2 (k, f)) (mdel now x.1) = nmV l (mdel now x.1) := nmV_congr fun y hy => by
    have hy := mem_mdel.1 hy
    unfold blk; rw [mget_mset, if_neg]
    intro e
    exact hy.2 (by rw [inj_val hi hx hy.1 e])
  rw [e1, e2, nmV_del]
  exact (mdel_perm hm _).cons _
theorem nV_rep (n : Nat) : nV (List.replicate n 0) = List.replicate n (.int .u8 0) := by simp [nV]
theorem nV_take (l : List Nat) (n : Nat) : nV (l.take n) = (nV l).take n := by simp [nV, List.map_take]
theorem cut_neg {c : Int} {f : Fil} (hc : c < 0) (b : List Nat) (hb : b = f.bs.take (f.safe + says c (f.bs.length - f.safe))) (hs : f.safe ≤ b.length) : (cut c f).bs = b.take f.safe ++ List.replicate (b.length - f.safe) 0 ∧ (cut c f).safe = b.length := by
  unfold cut
  dsimp only
  rw [if_pos hc, ← hb]
  exact ⟨rfl, by simp; omega⟩
theorem cut_pos {c : Int} {f : Fil} (hc : ¬ c < 0) : (cut c f).bs = f.bs.take (f.safe + says c (f.bs.length - f.safe)) ∧ (cut c f).safe = (f.bs.take (f.safe + says c (f.bs.length - f.safe))).length := by
  unfold cut
  dsimp only
  rw [if_neg hc]
  exact ⟨rfl, rfl⟩
/-- What the rounds over the names keep. -/
structure CrL (fs : List Fil) (now : List (Nm × Nat)) (l : FM) (mn : List (Nm × Nat)) : Prop where
  nd : (l.map (·.1)).Nodup
  fl : ∀ i b f, mget l i = some (b, f) → fs[i]? = some f
  n : mn.Perm (nmV l now)
  hn : ∀ x ∈ now, mget l x.2 ≠ none
theorem CrL.put {fs : List Fil} {now : List (Nm × Nat)} {l : FM} {mn : List (Nm × Nat)} (hk : (now.map (·.1)).Nodup) (hi : (now.map (·.2)).Nodup) (h : CrL fs now l mn) {x : Nm × Nat} (hx : x ∈ now) (k : Nat) (f : Fil) : CrL (fs.set x.2 f) now (mset l x.2 (k, f)) (mset mn x.1 k) := by
  refine ⟨nodup_mset h.nd _ _, fun i b g e => ?_, mset_nmV h.n hk hi hx, fun y hy => ?_⟩
  · rw [mget_mset] at e
    by_cases q : x.2 = i
    · rw [if_pos q] at e; cases e; subst q
      cases e2 : mget l x.2 with
      | none => exact absurd e2 (h.hn x hx)
      | some y =>
        have := h.fl _ y.1 y.2 e2
        have := (List.getElem?_eq_some_iff.1 this).1
        rw [List.getElem?_set_self this]
    · rw [if_neg q] at e
      rw [List.getElem?_set_ne q]; exact h.fl i b g e
  · rw [mget_mset]; split
    · simp
    · exact h.hn y hy
theorem names_loop {fs0 : List Fil} {now : List (Nm × Nat)} {rn rs : Nat} {a a2 : OA} {c c2 k3 : Nat} {cs : List Int} (hcs : I64 cs) (hk : (now.map (·.1)).Nodup) (hi : (now.map (·.2)).Nodup) (hlen : now.length < 2 ^ 40)
    {K : Ex → Fr → Heap → Prop} (hfs0 : ∀ f ∈ fs0, f.safe ≤ f.bs.length ∧ f.bs.length ≤ 4194304)
    (kk : ∀ h' l mn, CrL (cutAll cs 1 now fs0) now l mn → Hs h' (pt p T_disk_Disk (dkV d rn rs a c) :: mp Value.string ptrV rn mn :: fam filB l :: L) → K (.exit 2) (disk_Disk_Crash.X2 (some ⟨p, 0, none⟩)) h') :
    ∀ (r j : Nat) {h : Heap} {fs : List Fil} {l : FM} {mn : List (Nm × Nat)}, j + r = now.length → CrL fs now l mn → (∀ f ∈ fs, f.safe ≤ f.bs.length ∧ f.bs.length ≤ 4194304) → cutAll cs (j + 1) (now.drop j) fs = cutAll cs 1 now fs0 →
      Hs h (choA k3 (cs.drop (j + 1)) L :: pt p T_disk_Disk (dkV d rn rs a c) :: mp Value.string ptrV rn mn :: fam filB l :: own a2 now.length c2 T_string 1 (now.map fun x => Value.string x.1) :: L) →
      disk_Disk_Crash.L2 (some ⟨p, 0, none⟩) (.func (.func F_disk_Disk_Crash_1) #[] #[.pointer (some ⟨k3, 0, none⟩)]) a2 now.length c2 (now.length : Nat) (j : Nat) K h := by
  intro r
  induction r with
  | zero =>
    intro j h fs l mn hj lk hfs hc H
    refine disk_Disk_Crash.L2_of (br_false (decide_eq_false (by omega)) ?_)
    rw [List.drop_of_length_le (by omega)] at hc
    have hc : fs = cutAll cs 1 now fs0 := hc
    rw [← hc] at kk
    exact kk h l mn lk (H.sel 5 [1, 2, 3])
  | succ r ih =>
    intro j h fs l mn hj lk hfs hc H
    have hjn : j < now.length := by omega
    generalize hx : now[j] = x
    have hxm : x ∈ now := hx ▸ List.getElem_mem hjn
    refine disk_Disk_Crash.L2_of (br_true (decide_eq_true (by omega)) ?_)
    refine idx E_sl_string (xs := now.map fun x => Value.string x.1) (v := .string x.1) (H.m4.rd) (by omega) (by omega) (by rw [Int.toNat_natCast, List.getElem?_map, List.getElem?_eq_getElem hjn, hx]; rfl) fun t ht => ⟨_, ht, ?_⟩
    refine ⟨_, H.m1.cell (off := 1) rfl, ?_⟩
    refine H.m2.lookup1 U_disk_names Ky_str z_fp x.1 ?_
    have hg : mget mn x.1 = some (blk l x.2) := by
      rw [mget_congr lk.n (by rw [nmV_keys]; exact hk), nmV_get, mget_of_mem hk (show (x.1, x.2) ∈ now from hxm)]; rfl
    rw [hg]
    refine ⟨_, rfl, ?_⟩
    obtain ⟨⟨b, f⟩, hf⟩ : ∃ y, mget l x.2 = some y := Option.ne_none_iff_exists'.1 (lk.hn x hxm)
    have hb : blk l x.2 = b := by unfold blk; rw [hf]; rfl
    rw [hb]
    have hfj := lk.fl _ _ _ hf
    have hfo := hfs f (List.mem_of_getElem? hfj)
    refine choice_hs H (H.sel 5 []) fun h2 H2 => ⟨_, rfl, ?_⟩
    have ecd : (cs.drop (j + 1)).getD 0 0 = cs.getD (j + 1) 0 := by
      rw [List.getD_eq_getElem?_getD, List.getD_eq_getElem?_getD, List.getElem?_drop]; try rfl
    rw [ecd]
    rw [List.tail_drop] at H2
    generalize hcj : cs.getD (j + 1) 0 = cj at *
    have hcr := hcs.getD (j + 1)
    rw [hcj] at hcr
    obtain ⟨a1, n1, c1, H3⟩ := fil_at lk.nd hf H2.m3
    have hl := H3.m1.own_len
    rw [nV_len, Nat.mul_one] at hl
    subst hl
    refine ⟨_, _, _, H3.cell (off := 0) rfl, _, H3.cell (off := 1) rfl, _, _, _, H3.cell (off := 0) rfl, _, H3.cell (off := 1) rfl, ?_⟩
    have ew : IntKind.i64.wrap ((f.bs.length : Int) - (f.safe : Int)) = ((f.bs.length - f.safe : Nat) : Int) := by rw [wrap_i64_z (by omega) (by omega)]; omega
    dsimp only
    rw [ew]
    refine ⟨_, says_pure hcr.1 hcr.2 (by omega), _, rfl, ?_⟩
    have hsl := says_le cj (f.bs.length - f.safe)
    generalize hm : says cj (f.bs.length - f.safe) = m at *
    have ew2 : IntKind.i64.wrap ((f.safe : Int) + (m : Int)) = ((f.safe + m : Nat) : Int) := by rw [wrap_i64_z (by omega) (by omega)]; omega
    rw [ew2]
    have ho0 := own_none_len H3.m1
    have hnn : a1 = none → c1 = 0 := fun q => by subst q; exact H3.m1.own_none
    refine cutS E_sl_uint8 (i := 0) (j := f.safe + m) (L := [own a1 f.bs.length c1 T_uint8 1 (nV f.bs)]) Gv.own (by rw [nV_len]; omega) H3.m1.own_le hnn (Nat.zero_le _) (by omega) rfl rfl fun a4 c4 g4 h4n h4c h40 => ⟨_, _, _, rfl, ?_⟩
    have eb : ((nV f.bs).drop (0 * 1)).take ((f.safe + m - 0) * 1) = nV (f.bs.take (f.safe + m)) := by rw [nV_take]; simp
    rw [eb] at g4
    generalize hbb : f.bs.take (f.safe + m) = bb at *
    have hbl : bb.length = f.safe + m := by rw [← hbb, List.length_take]; omega
    refine cloneB_hs (L := own a1 f.bs.length c1 T_uint8 1 (nV f.bs) :: _) (Gv.one g4) (by omega) (by omega) h4n H3.m1 fun h5 a5 c5 H5 => ⟨_, _, _, rfl, ?_⟩
    rw [show f.safe + m - 0 = bb.length by omega] at H5 ⊢
    -- the new file
    have fin : ∀ {h : Heap}, (cut cj f).bs.length = bb.length → (cut cj f).safe = bb.length →
        Hs h (own a5 bb.length c5 T_uint8 1 (nV (cut cj f).bs) :: own a1 f.bs.length c1 T_uint8 1 (nV f.bs) :: pt b T_disk_file [.slice a1 f.bs.length c1, .int .i64 (f.safe : Nat)] :: fam filB (mdel l x.2) :: choA k3 (cs.drop (j + 1 + 1)) L :: pt p T_disk_Disk (dkV d rn rs a c) :: mp Value.string ptrV rn mn :: own a2 now.length c2 T_string 1 (now.map fun x => Value.string x.1) :: L) →
        disk_Disk_Crash.J1 (some ⟨p, 0, none⟩) (.func (.func F_disk_Disk_Crash_1) #[] #[.pointer (some ⟨k3, 0, none⟩)]) x.1 a5 bb.length c5 a2 now.length c2 (now.length : Nat) (j : Nat) K h := by
      intro h e1 e2 H
      refine disk_Disk_Crash.J1_of ⟨_, H.m5.cell (off := 1) rfl, ?_⟩
      have H6 := H.new (t := T_disk_file) (cs := #[.slice a5 bb.length c5, .int .i64 (bb.length : Int)]) (xs := [.slice a5 bb.length c5, .int .i64 (bb.length : Int)])
      dsimp only
      generalize Array.size h = kn at H6 ⊢
      generalize Array.push h _ = h6 at H6 ⊢
      refine H6.m7.mset U_disk_names Ky_str x.1 kn rfl fun h7 H7 => ?_
      rw [inc (by omega)]
      have H8 := H7.sel 8 [1, 2, 5, 6, 7, 0]
      have H9 : Hs h7 (filB (kn, cut cj f) :: _) := filB_open.2 ⟨a5, bb.length, c5, by
        show Hs h7 (pt kn T_disk_file [.slice a5 bb.length c5, .int .i64 ((cut cj f).safe : Nat)] :: _)
        rw [e2]; exact H8⟩
      have H10 := Hs.fam_put (k := x.2) (x := (kn, cut cj f)) H9 lk.nd
      refine ih (j + 1) (fs := fs.set x.2 (cut cj f)) (by omega) (lk.put hk hi hxm kn _) (fun g hg => ?_) ?_ (H10.sel 4 [1, 2, 3, 0])
      · rcases List.mem_or_eq_of_mem_set hg with q | rfl
        · exact hfs g q
        · exact cut_ok _ hfo
      · rw [← hc]
        rw [List.drop_eq_getElem_cons hjn, hx]
        show _ = cutAll cs (j + 1 + 1) (now.drop (j + 1)) (fs.set x.2 (cut (cs.getD (j + 1) 0) (fs[x.2]?.getD fil0)))
        rw [hcj, hfj]; rfl
    have hsb : f.safe ≤ bb.length := by omega
    have eL : Hs h5 (own a5 bb.length c5 T_uint8 1 (nV bb) :: own a1 f.bs.length c1 T_uint8 1 (nV f.bs) :: pt b T_disk_file [.slice a1 f.bs.length c1, .int .i64 (f.safe : Nat)] :: fam filB (mdel l x.2) :: choA k3 (cs.drop (j + 1 + 1)) L :: pt p T_disk_Disk (dkV d rn rs a c) :: mp Value.string ptrV rn mn :: own a2 now.length c2 T_string 1 (now.map fun x => Value.string x.1) :: L) :=
      H5
    refine (br_iff _ _ _).2 ⟨fun e => ?_, fun e => ?_⟩
    · have e := of_decide_eq_true e
      obtain ⟨e1, e2⟩ := cut_neg (f := f) e bb (by rw [hm, hbb]) hsb
      refine ⟨_, eL.m2.cell (off := 1) rfl, ?_⟩
      refine eL.clear E_sl_uint8 rfl rfl hsb fun h6 H6 => ?_
      have ee : (nV bb).take f.safe ++ List.replicate (bb.length - f.safe) (.int .u8 0) = nV (cut cj f).bs := by rw [e1, nV_app, nV_take, nV_rep]
      rw [ee] at H6
      exact fin (by rw [e1]; simp; omega) e2 H6
    · have e := of_decide_eq_false e
      obtain ⟨e1, e2⟩ := cut_pos (f := f) e
      rw [hm, hbb] at e1 e2
      refine fin (by rw [e1]) e2 ?_
      rw [e1]; exact eL
theorem aps_take {l : List (Nm × Nat)} {cs : List Chg} {j : Nat} (hj : j < cs.length) : aps l (cs.take (j + 1)) = ap (aps l (cs.take j)) cs[j] := by
  rw [List.take_succ_eq_append_getElem hj, aps_snoc]
theorem chg_loop {rn rs : Nat} {a a4 : OA} {c c4 m : Nat} {cv : Value} {l : FM} {R : List Assn} {K : Ex → Fr → Heap → Prop} (hd : DI d) (hm : m ≤ d.chg.length) (hsz : d.chg.length < 2 ^ 40)
    (g : Gv [own a d.chg.length c T_disk_change 3 (d.chg.flatMap (chV l))] a4 ((d.chg.take m).flatMap (chV l)))
    {e : DS} (kk : ∀ h' mn, mn.Perm (nmV l (aps d.safe (d.chg.take m))) → Hs h' (pt p T_disk_Disk (dkV e rn rs a c) :: mp Value.string ptrV rn mn :: own a d.chg.length c T_disk_change 3 (d.chg.flatMap (chV l)) :: R) → K (.exit 0) (disk_Disk_Crash.X0 (some ⟨p, 0, none⟩) cv) h') :
    ∀ (r j : Nat) {h : Heap} {mn : List (Nm × Nat)}, j + r = m → mn.Perm (nmV l (aps d.safe (d.chg.take j))) →
      Hs h (pt p T_disk_Disk (dkV e rn rs a c) :: mp Value.string ptrV rn mn :: own a d.chg.length c T_disk_change 3 (d.chg.flatMap (chV l)) :: R) →
      disk_Disk_Crash.L1 (some ⟨p, 0, none⟩) cv a4 m c4 (m : Nat) (j : Nat) K h := by
  intro r
  induction r with
  | zero =>
    intro j h mn hj hp H
    have : j = m := by omega
    subst this
    exact disk_Disk_Crash.L1_of (br_false (decide_eq_false (by omega)) (kk h mn hp H))
  | succ r ih =>
    intro j h mn hj hp H
    have hjm : j < m := by omega
    have hjn : j < d.chg.length := by omega
    refine disk_Disk_Crash.L1_of (br_true (decide_eq_true (by omega)) ?_)
    refine idxf E_sl_disk_change (φ := chV l) (l := d.chg.take m) (x := d.chg[j]) (g h (Hs.one H.m2)) (chV_len l) (by decide) (by omega) (by omega) (by rw [Int.toNat_natCast, List.getElem?_take_of_lt hjm, List.getElem?_eq_getElem hjn]) fun t ht => ⟨_, _, _, ht, ?_⟩
    have H2 := H.new (t := T_disk_change) (cs := #[.string ⟨#[]⟩, .string ⟨#[]⟩, .pointer none]) (xs := [.string ⟨#[]⟩, .string ⟨#[]⟩, .pointer none])
    dsimp only
    generalize Array.size h = kn at H2 ⊢
    generalize Array.push h _ = h2 at H2 ⊢
    refine Hs.wrs (b := kn) (vs := chV l d.chg[j]) H2 (fun h3 H3 => ?_) rfl (chV_one l _)
    refine ⟨_, H3.m1.cell (off := 1) rfl, _, _, _, H3.rdc0, ?_⟩
    refine do_hs (b := blk l d.chg[j].f) (fun q => by unfold cptr; rw [if_neg q]) H3.m2 fun h4 H4 => ⟨rfl, ?_⟩
    rw [inc (by omega)]
    refine ih (j + 1) (by omega) ?_ (H4.sel 4 [2, 0, 3])
    rw [aps_take hjn]
    exact doM_perm hp (hd.ris.aps).nodup
theorem Crash_hs {b : OA} {m bc : Nat} {cs : List Int} (hd : DI d) (hb : d.steps < 2 ^ 38) (g : Gv L b (zV cs)) (hm : cs.length = m) (hmc : m ≤ bc) (hm0 : b = none → bc = 0) (hcs : I64 cs) (hL : Hs h L) (H : Hs h (diskA p d :: L))
    (kk : ∀ h', Hs h' (diskA p (d.crash cs) :: L) → Q (.int .i64 0) h') :
    SpecH PP F_disk_Disk_Crash [.pointer (some ⟨p, 0, none⟩), .slice b m bc] h Q := by
  obtain ⟨l, mn, ms, rn, rs, a, c, lk, H1⟩ := diskA_open.1 H
  refine disk_Disk_Crash.door ?_
  have H2 := H1.new (t := T_sl_int) (cs := #[.slice b m bc]) (xs := [.slice b m bc])
  dsimp only
  generalize Array.size h = k3 at H2 ⊢
  generalize Array.push h _ = h1 at H2 ⊢
  refine br_false rfl ?_
  refine H2.m1.sto (off := 5) (by simp [dkV]) fun h3 H3 => ?_
  refine H3.sto (off := 6) (by simp [dkV]) fun h4 H4 => ?_
  refine ⟨_, H4.cell (off := 2) rfl, ?_⟩
  refine MClone_hs H4.m3 fun h5 r5 H5 => ⟨_, rfl, ?_⟩
  refine H5.m2.sto (off := 1) (by simp [dkV]) fun h6 H6 => ?_
  have e2 : ((((dkV d rn rs a c).set 5 (.bool false)).set 6 (.int .i64 0)).set 1 (.map (some r5))) = dkV { d with left := none } r5 rs a c := by simp [dkV]
  rw [e2] at H6
  have H7 : Hs h6 (choA k3 cs L :: _) := choA_open.2 ⟨b, m, bc, ⟨g, hm, hmc, hm0⟩, H6.m3⟩
  have H7 := H7.sel 7 [0, 1, 2, 5, 6]
  have hcl := hd.cl
  have hc0 := hcs.getD 0
  have fin : ∀ {h : Heap}, Hs h (choA k3 cs.tail L :: pt p T_disk_Disk (dkV { d with left := none } r5 rs a c) :: mp Value.string ptrV r5 ms :: own a d.chg.length c T_disk_change 3 (d.chg.flatMap (chV l)) :: fam filB l :: L) →
      hwp PP (Instr.sliceAt T_sl_disk_change (.slice a d.chg.length c) none (some (.int .i64 (says (cs.getD 0 0) d.chg.length : Nat))) none) (fun v_15 h15 => ∃ (t42_4 : OA) (t42_4n t42_4c : Nat), v_15 = (.slice t42_4 t42_4n t42_4c) ∧
        disk_Disk_Crash.L1 (some ⟨p, 0, none⟩) (.func (.func F_disk_Disk_Crash_1) #[] #[(.pointer (some ⟨k3, 0, none⟩))]) t42_4 t42_4n t42_4c (t42_4n : Int) 0 (disk_Disk_Crash.K1 Q) h15) h := by
    intro h H
    have hsl := says_le (cs.getD 0 0) d.chg.length
    have enow : (d.crash cs).now = aps d.safe (d.chg.take (says (cs.getD 0 0) d.chg.length)) := rfl
    have efs : (d.crash cs).files = cutAll cs 1 (aps d.safe (d.chg.take (says (cs.getD 0 0) d.chg.length))) d.files := rfl
    have hxk := hd.ixs (says (cs.getD 0 0) d.chg.length)
    have hin := hd.inj (says (cs.getD 0 0) d.chg.length)
    have hln := hd.len (says (cs.getD 0 0) d.chg.length)
    generalize hsm : says (cs.getD 0 0) d.chg.length = sm at *
    have hnn : a = none → c = 0 := fun q => by subst q; exact H.m3.own_none
    refine cutS E_sl_disk_change (i := 0) (j := sm) (L := [own a d.chg.length c T_disk_change 3 (d.chg.flatMap (chV l))]) Gv.own (by rw [flat_len (chV_len l)]) H.m3.own_le hnn (Nat.zero_le _) (by omega) rfl rfl fun a4 c4 g4 h4n h4c h40 => ⟨_, _, _, rfl, ?_⟩
    rw [flat_cut (chV_len l), List.drop_zero, Nat.sub_zero] at g4
    rw [Nat.sub_zero]
    have hris : Ris (aps d.safe (d.chg.take sm)) := hd.ris.aps
    generalize hnow : aps d.safe (d.chg.take sm) = now at *
    have hfl := hd.fl
    refine chg_loop (d := d) (e := { d with left := none }) (R := choA k3 cs.tail L :: fam filB l :: L) hd (by omega) (by omega) g4 ?_ sm 0 (by omega) lk.s (H.sel 5 [1, 2, 3, 0, 4])
    intro h8 mn8 hp8 H8
    rw [hnow] at hp8
    refine disk_Disk_Crash.L1_X0 ?_
    refine Names_open (d := { d with left := none }) rfl hp8 hris (by omega) H8 fun h9 a9 c9 H9 => ⟨_, _, _, rfl, ?_⟩
    have hcr : CrL d.files now l mn8 := ⟨lk.nd, fun i b f e => by obtain ⟨q1, q2⟩ := lk.fl i b f e; rw [← q2]; exact fl_eq q1, hp8, fun x hx => by
      rw [← hnow] at hx
      rcases mem_aps hx with q | ⟨cg, hcg, q, rfl⟩
      · exact lk.hs x q
      · exact lk.hc cg (List.mem_of_mem_take hcg) q⟩
    have ht : cs.tail = cs.drop (0 + 1) := by simp
    rw [ht] at H9
    refine names_loop (d := { d with left := none }) (fs0 := d.files) hcs hris.nodup hin (by omega) hd.fil ?_ now.length 0 (by omega) hcr hd.fil (by rw [List.drop_zero]) (H9.sel 6 [4, 1, 2, 5, 0])
    intro h10 l10 mn10 lk10 H10
    refine disk_Disk_Crash.L2_X2 ⟨_, H10.cell (off := 1) rfl, ?_⟩
    refine MClone_hs H10.m1 fun h11 r11 H11 => ⟨_, rfl, ?_⟩
    refine H11.m2.sto (off := 2) (by simp [dkV]) fun h12 H12 => ?_
    refine H12.sto (off := 3) (by simp [dkV]) fun h13 H13 => ?_
    have e3 : (((dkV { d with left := none } r5 rs a c).set 2 (.map (some r11))).set 3 (.slice none 0 0)) = dkV (d.crash cs) r5 r11 none 0 := by simp [dkV, DS.crash]
    rw [e3] at H13
    have hfe : (d.crash cs).files = cutAll cs 1 now d.files := by rw [efs]
    have hne : (d.crash cs).now = now := enow
    have hse : (d.crash cs).safe = now := enow
    refine kk h13 (diskA_open.2 ⟨l10, mn10, mn10, r5, r11, none, 0, ⟨lk10.nd, fun i b f e => ?_, by rw [hne]; exact lk10.n, by rw [hse]; exact lk10.n, by rw [hne]; exact lk10.hn, by rw [hse]; exact lk10.hn, nofun⟩, ?_⟩)
    · have := lk10.fl i b f e
      rw [← hfe] at this
      refine ⟨(List.getElem?_eq_some_iff.1 this).1, ?_⟩
      unfold DS.fl; rw [this]; rfl
    · exact (H13.own_nil T_disk_change 3).sel 5 [1, 3, 2, 0, 4]
  have hsp : ∀ v : Int, v = ((d.chg.length : Nat) : Int) → PureAt PP F_disk_says [.int .i64 (cs.getD 0 0), .int .i64 v] (.int .i64 (says (cs.getD 0 0) d.chg.length : Nat)) := fun v hv => by
    subst hv; exact says_pure hc0.1 hc0.2 (by omega)
  have hL6 : Hs h6 L := H7.sel 5 []
  refine ⟨⟨_, _, _, H7.m1.cell (off := 3) rfl, ?_, ?_, trivial⟩, ?_, ⟨_, _, _, H7.m1.cell (off := 3) rfl, ⟨_, _, _, H7.m1.cell (off := 3) rfl, ?_⟩, ?_, trivial⟩, trivial⟩
  · exact choice_hs H7 hL6 fun h8 H8 => ⟨_, rfl, _, _, _, H8.m1.cell (off := 3) rfl, _, hsp _ rfl, _, rfl, fin H8⟩
  · exact ⟨_, _, _, H7.m1.cell (off := 3) rfl, choice_hs H7 hL6 fun h8 H8 => ⟨_, rfl, _, hsp _ rfl, _, rfl, fin H8⟩⟩
  · exact choice_hs H7 hL6 fun h8 H8 => ⟨_, rfl, _, _, _, H8.m1.cell (off := 3) rfl, _, _, _, H8.m1.cell (off := 3) rfl, _, hsp _ rfl, _, rfl, fin H8⟩
  · exact choice_hs H7 hL6 fun h8 H8 => ⟨_, rfl, _, hsp _ rfl, _, rfl, fin H8⟩
  · exact choice_hs H7 hL6 fun h8 H8 => ⟨_, rfl, _, _, _, H8.m1.cell (off := 3) rfl, _, hsp _ rfl, _, rfl, fin H8⟩
end Go.Proofs.Ytkogmkajhjmkeaa

set_option maxRecDepth 20000
set_option linter.unusedVariables false
set_option linter.unusedSimpArgs false
namespace Go.Proofs.Ytkogmkajhjmkeaa
open Go Go.HW
variable {h : Heap} {L R : List Assn} {Q : Value → Heap → Prop} {p : Nat} {d : DS} {n : Nm}
/-- The map of the copies: an elder block's new one. -/
def OM (l l2 : FM) : List (Nat × Nat) := l2.map fun x => (blk l x.1, x.2.1)
structure CpL (l l2 : FM) : Prop where
  nd : (l2.map (·.1)).Nodup
  fl : ∀ i b f, mget l2 i = some (b, f) → ∃ b0, mget l i = some (b0, f)
theorem mset_none {α β : Type} [DecidableEq α] {l : List (α × β)} {k : α} (e : mget l k = none) (v : β) : mset l k v = l ++ [(k, v)] := by
  rcases find_of (k := k) (l := l) with ⟨j, hj, f1, f2, f3, f4⟩ | ⟨f1, f2, f3⟩
  · rw [e] at f3; cases f3
  · exact f3 v
theorem fil_plb {l : FM} {i b : Nat} {f : Fil} (nd : (l.map (·.1)).Nodup) (e : mget l i = some (b, f)) (H : Hs h (fam filB l :: L)) : PlB h b := by
  obtain ⟨a, n, c, H1⟩ := fil_at nd e H
  exact H1.plb
theorem blk_inj {l : FM} {i j b : Nat} {f g : Fil} (nd : (l.map (·.1)).Nodup) (hi : mget l i = some (b, f)) (hj : mget l j = some (b, g)) (H : Hs h (fam filB l :: L)) : i = j := by
  by_cases e : i = j
  · exact e
  have H1 := H.fam_take nd hi
  have hj' : mget (mdel l i) j = some (b, g) := by rw [mget_mdel, if_neg e]; exact hj
  obtain ⟨a, n, c, H2⟩ := filB_open.1 H1
  obtain ⟨a', n', c', H3⟩ := fil_at (nodup_mdel nd i) hj' (H2.m2)
  exact absurd rfl (Hs.ne (b := b) (c := b) (H3.sel 4 [0, 3]))
theorem OM_get {l l2 : FM} {i b : Nat} {f : Fil} (nd : (l.map (·.1)).Nodup) (cp : CpL l l2) (hi : mget l i = some (b, f)) (H : Hs h (fam filB l :: L)) : mget (OM l l2) b = (mget l2 i).map (·.1) := by
  have key : ∀ m : FM, (∀ x ∈ m, ∃ b0, mget l x.1 = some (b0, x.2.2)) → mget (OM l m) b = (mget m i).map (·.1) := by
    intro m
    induction m with
    | nil => intro _; rfl
    | cons x m ih =>
      intro hm
      obtain ⟨b0, hb0⟩ := hm x (List.mem_cons_self ..)
      show mget ((blk l x.1, x.2.1) :: OM l m) b = _
      rw [mget_cons, mget_cons, ih fun y hy => hm y (List.mem_cons_of_mem _ hy)]
      have hbx : blk l x.1 = b0 := by unfold blk; rw [hb0]; rfl
      rw [hbx]
      by_cases e : x.1 = i
      · rw [e, hi] at hb0; cases hb0
        rw [if_pos rfl, if_pos e]; rfl
      · rw [if_neg e, if_neg]
        intro q
        subst q
        exact e (blk_inj nd hb0 hi H)
  exact key l2 fun x hx => cp.fl x.1 x.2.1 x.2.2 (mget_of_mem cp.nd hx)
theorem OM_plb {l l2 : FM} (nd : (l.map (·.1)).Nodup) (cp : CpL l l2) (H : Hs h (fam filB l :: L)) : ∀ x ∈ OM l l2, PlB h x.1 := by
  intro x hx
  obtain ⟨y, hy, rfl⟩ := List.mem_map.1 hx
  obtain ⟨b0, hb0⟩ := cp.fl y.1 y.2.1 y.2.2 (mget_of_mem cp.nd hy)
  have : blk l y.1 = b0 := by unfold blk; rw [hb0]; rfl
  show PlB h (blk l y.1)
  rw [this]
  exact fil_plb nd hb0 H
theorem size_ne {P : Program} {e : TypeId} (i : (P.info? e).map (·.size) = some 2) : ∃ i n, P.info? e = some i ∧ i.size = n ∧ n ≠ 0 := by
  obtain ⟨i, h1, h2⟩ := size_of i
  exact ⟨i, 2, h1, h2, by decide⟩
theorem Ky_fp : PKeys PP T_p_disk_file T_disk_file := ⟨by kernel_rfl, size_ne (by kernel_rfl)⟩
theorem copied_hs {l l2 : FM} {o ro i b : Nat} {f : Fil} (hi : mget l i = some (b, f)) (hf : f.bs.length ≤ 4194304) (nd : (l.map (·.1)).Nodup) (cp : CpL l l2)
    (H : Hs h (pt o T_map_p_disk_file_p_disk_file [.map (some ro)] :: mp ptrV ptrV ro (OM l l2) :: fam filB l2 :: fam filB l :: R))
    (kk : ∀ h' l2', CpL l l2' → (∀ j, mget l2 j ≠ none → mget l2' j = mget l2 j) → mget l2' i ≠ none →
      Hs h' (pt o T_map_p_disk_file_p_disk_file [.map (some ro)] :: mp ptrV ptrV ro (OM l l2') :: fam filB l2' :: fam filB l :: R) → Q (.pointer (some ⟨blk l2' i, 0, none⟩)) h') :
    callV PP (.func (.func F_disk_Disk_Clone_1) #[] #[.pointer (some ⟨o, 0, none⟩)]) [.pointer (some ⟨b, 0, none⟩)] Q h := by
  refine callV_fn (by kernel_rfl) ?_
  show SpecH PP F_disk_Disk_Clone_1 [_, _] h Q
  have fin : ∀ {h : Heap} {l2' : FM}, CpL l l2' → (∀ j, mget l2 j ≠ none → mget l2' j = mget l2 j) → mget l2' i ≠ none →
      Hs h (pt o T_map_p_disk_file_p_disk_file [.map (some ro)] :: mp ptrV ptrV ro (OM l l2') :: fam filB l2' :: fam filB l :: R) → disk_Disk_Clone_1.J1 (some ⟨b, 0, none⟩) ⟨o, 0, none⟩ Q h := by
    intro h l2' cp' ho hne H
    refine disk_Disk_Clone_1.J1_of ⟨_, H.cell (off := 0) rfl, ?_⟩
    refine H.m1.plookup U_map_p_disk_file_p_disk_file Ky_fp z_fp b (fil_plb nd hi H.m3) (OM_plb nd cp' H.m3) ?_
    rw [OM_get nd cp' hi H.m3]
    obtain ⟨x, hx⟩ := Option.ne_none_iff_exists'.1 hne
    have hb : blk l2' i = x.1 := by unfold blk; rw [hx]; rfl
    have k := kk h l2' cp' ho hne H
    rw [hb] at k
    rw [hx]
    exact ⟨_, rfl, k⟩
  refine disk_Disk_Clone_1.door (br_false rfl ⟨_, H.cell (off := 0) rfl, ?_⟩)
  refine H.m1.plookup U_map_p_disk_file_p_disk_file Ky_fp z_fp b (fil_plb nd hi H.m3) (OM_plb nd cp H.m3) ?_
  rw [OM_get nd cp hi H.m3]
  cases hx : mget l2 i with
  | some x => exact ⟨some ⟨x.1, 0, none⟩, rfl, br_false rfl (fin cp (fun _ _ => rfl) (by rw [hx]; simp) H)⟩
  | none =>
    refine ⟨none, rfl, br_true rfl ?_⟩
    have hb0 : blk l i = b := by unfold blk; rw [hi]; rfl
    obtain ⟨a1, n1, c1, H3⟩ := fil_at nd hi H.m3
    have hl := H3.m1.own_len
    rw [nV_len, Nat.mul_one] at hl
    subst hl
    have hn0 := own_none_len H3.m1
    have mk : ∀ {h : Heap} {a5 : OA} {c5 : Nat}, Hs h (own a5 f.bs.length c5 T_uint8 1 (nV f.bs) :: own a1 f.bs.length c1 T_uint8 1 (nV f.bs) :: pt b T_disk_file [.slice a1 f.bs.length c1, .int .i64 (f.safe : Nat)] :: fam filB (mdel l i) :: pt o T_map_p_disk_file_p_disk_file [.map (some ro)] :: mp ptrV ptrV ro (OM l l2) :: fam filB l2 :: R) →
        hwp PP (Instr.mapUpdate T_map_p_disk_file_p_disk_file (.map (some ro)) (.pointer (some ⟨b, 0, none⟩)) (.pointer (some ⟨Array.size h, 0, none⟩))) (fun _ h10 => disk_Disk_Clone_1.J1 (some ⟨b, 0, none⟩) ⟨o, 0, none⟩ Q h10) (Array.push h (.cells #[.slice a5 f.bs.length c5, .int .i64 (f.safe : Nat)] T_disk_file (0, 0))) := by
      intro h a5 c5 H
      have H4 := H.new (t := T_disk_file) (cs := #[.slice a5 f.bs.length c5, .int .i64 (f.safe : Nat)]) (xs := [.slice a5 f.bs.length c5, .int .i64 (f.safe : Nat)])
      generalize Array.size h = kn at H4 ⊢
      generalize Array.push h _ = h4 at H4 ⊢
      have H5 := (filB_open (x := (kn, f))).2 ⟨a5, _, c5, H4⟩
      have H6 := Hs.fam_put (k := i) (x := (kn, f)) (l := l2) (by rw [mdel_none hx]; exact H5.sel 7 [0, 6, 1, 2, 3, 4, 5]) cp.nd
      have H7 := (filB_open (x := (b, f))).2 ⟨a1, _, c1, H6.sel 6 [2, 1, 0, 3, 4, 5]⟩
      have H8 := Hs.fam_back (k := i) (x := (b, f)) (l := l) (H7.sel 3 [0, 2, 1]) nd hi
      refine Hs.pmset (k := b) (v := kn) (H8.sel 4 [3, 0, 1, 2]) U_map_p_disk_file_p_disk_file Ky_fp (fil_plb nd hi H8) (OM_plb nd cp H8) rfl fun h9 H9 => ?_
      have hne : mget (OM l l2) b = none := by rw [OM_get nd cp hi H8, hx]; rfl
      have eOM : mset (OM l l2) b kn = OM l (mset l2 i (kn, f)) := by
        rw [mset_none hne, mset_none hx]
        unfold OM
        rw [List.map_append]
        simp [hb0]
      rw [eOM] at H9
      refine fin (l2' := mset l2 i (kn, f)) ⟨nodup_mset cp.nd _ _, fun j b' g e => ?_⟩ (fun j e => ?_) ?_ (H9.sel 4 [3, 0, 2, 1])
      · rw [mget_mset] at e
        by_cases q : i = j
        · rw [if_pos q] at e; cases e; subst q; exact ⟨b, hi⟩
        · rw [if_neg q] at e; exact cp.fl j b' g e
      · rw [mget_mset, if_neg]
        intro q; subst q; exact e hx
      · rw [mget_mset, if_pos rfl]; simp
    have g0 : ∀ {M : List Assn}, Gv (own a1 f.bs.length c1 T_uint8 1 (nV f.bs) :: M) a1 (nV f.bs) := Gv.own
    refine ⟨_, _, _, H3.cell (off := 0) rfl, ?_⟩
    refine ⟨⟨_, H3.m3.cell (off := 0) rfl, ?_, ?_, trivial⟩, ?_, ⟨_, H3.cell (off := 1) rfl, ⟨_, H3.m3.cell (off := 0) rfl, ?_⟩, ?_, trivial⟩, trivial⟩
    · exact cloneB_hs g0 rfl (by omega) hn0 H3.m1 fun h5 a5 c5 H5 => ⟨_, _, _, rfl, _, H5.m2.cell (off := 1) rfl, mk H5⟩
    · exact ⟨_, H3.cell (off := 1) rfl, cloneB_hs g0 rfl (by omega) hn0 H3.m1 fun h5 a5 c5 H5 => ⟨_, _, _, rfl, mk H5⟩⟩
    · exact cloneB_hs g0 rfl (by omega) hn0 H3.m1 fun h5 a5 c5 H5 => ⟨_, _, _, rfl, _, H5.m4.cell (off := 0) rfl, _, H5.m2.cell (off := 1) rfl, mk H5⟩
    · exact cloneB_hs g0 rfl (by omega) hn0 H3.m1 fun h5 a5 c5 H5 => ⟨_, _, _, rfl, mk H5⟩
    · exact cloneB_hs g0 rfl (by omega) hn0 H3.m1 fun h5 a5 c5 H5 => ⟨_, _, _, rfl, _, H5.m4.cell (off := 0) rfl, mk H5⟩
theorem copied_nil {o : Nat} (k : Q (.pointer none) h) : callV PP (.func (.func F_disk_Disk_Clone_1) #[] #[.pointer (some ⟨o, 0, none⟩)]) [.pointer none] Q h := by
  refine callV_fn (by kernel_rfl) ?_
  show SpecH PP F_disk_Disk_Clone_1 [_, _] h Q
  exact disk_Disk_Clone_1.door (br_true rfl k)
end Go.Proofs.Ytkogmkajhjmkeaa

set_option maxRecDepth 20000
set_option linter.unusedVariables false
set_option linter.unusedSimpArgs false
namespace Go.Proofs.Ytkogmkajhjmkeaa
open Go Go.HW
variable {h : Heap} {L R : List Assn} {Q : Value → Heap → Prop} {p : Nat} {d : DS} {n : Nm}

theorem round1_hs {l : FM} {mm : List (Nm × Nat)} {r i x o ro rx : Nat} {xs : List Value} {K : Ex → Fr → Heap → Prop} (nd : (l.map (·.1)).Nodup) (hfl : ∀ i b f, mget l i = some (b, f) → f.bs.length ≤ 4194304)
    {now : List (Nm × Nat)} (hk : (now.map (·.1)).Nodup) (hp : mm.Perm (nmV l now)) (hn : ∀ x ∈ now, mget l x.2 ≠ none) (hxs : xs[1]? = some (.map (some rx)))
    {l0 : FM} (kk : ∀ h' l2 mx, CpL l l2 → (∀ j, mget l0 j ≠ none → mget l2 j = mget l0 j) → mx.Perm (nmV l2 now) → (∀ x ∈ now, mget l2 x.2 ≠ none) →
      Hs h' (pt o T_map_p_disk_file_p_disk_file [.map (some ro)] :: mp ptrV ptrV ro (OM l l2) :: fam filB l2 :: fam filB l :: mp Value.string ptrV r mm :: mp Value.string ptrV rx mx :: pt x T_disk_Disk xs :: R) → K (.exit 0) (disk_Disk_Clone.X0 (some ⟨p, 0, none⟩) ⟨x, 0, none⟩ (.func (.func F_disk_Disk_Clone_1) #[] #[.pointer (some ⟨o, 0, none⟩)])) h') :
    ∀ (k : Nat) {h : Heap} {l2 : FM} {mx done todo : List (Nm × Nat)}, todo.length = k → CpL l l2 → (∀ j, mget l0 j ≠ none → mget l2 j = mget l0 j) → mx = done.map (fun y => (y.1, blk l2 ((mget now y.1).getD 0))) → (∀ y ∈ done, mget l2 ((mget now y.1).getD 0) ≠ none) →
      Hs h (pt o T_map_p_disk_file_p_disk_file [.map (some ro)] :: mp ptrV ptrV ro (OM l l2) :: fam filB l2 :: fam filB l :: rgn Value.string ptrV r i mm done todo :: mp Value.string ptrV rx mx :: pt x T_disk_Disk xs :: R) →
      disk_Disk_Clone.L1 (some ⟨p, 0, none⟩) ⟨x, 0, none⟩ (.func (.func F_disk_Disk_Clone_1) #[] #[.pointer (some ⟨o, 0, none⟩)]) (.pointer (some ⟨i, 0, none⟩)) K h := by
  intro k
  induction k with
  | zero =>
    intro h l2 mx done todo hk0 cp hl0 hmx hdn H
    have : todo = [] := List.length_eq_zero_iff.1 hk0
    subst this
    refine disk_Disk_Clone.L1_of (H.m4.next (fun _ => ⟨false, [], rfl, br_false rfl ?_⟩) (fun h' x todo' p _ => by simp at p))
    have hp2 := H.m4.rgn_perm
    rw [List.append_nil] at hp2
    have hdp : done.Perm (nmV l now) := hp2.trans hp
    refine kk h l2 mx cp hl0 ?_ (fun y hy => ?_) ?_
    · rw [hmx]
      refine (hdp.map _).trans ?_
      unfold nmV
      rw [List.map_map]
      refine List.Perm.of_eq (List.map_congr_left fun y hy => ?_)
      show (y.1, blk l2 ((mget now y.1).getD 0)) = _
      rw [mget_of_mem hk (show (y.1, y.2) ∈ now from hy)]; rfl
    · have : (y.1, blk l y.2) ∈ done := hdp.mem_iff.2 (List.mem_map.2 ⟨y, hy, rfl⟩)
      have := hdn _ this
      rw [show mget now (y.1, blk l y.2).1 = some y.2 from mget_of_mem hk (show (y.1, y.2) ∈ now from hy)] at this
      exact this
    · exact (H.m4.rgn_end).sel 5 [1, 2, 3, 4, 0]
  | succ k ih =>
    intro h l2 mx done todo hk0 cp hl0 hmx hdn H
    refine disk_Disk_Clone.L1_of (H.m4.next (fun e => by rw [e] at hk0; cases hk0) (fun h2 y todo' q H2 => ⟨true, [.string y.1, ptrV y.2], rfl, br_true rfl ?_⟩))
    refine H2.entry ⟨_, _, rfl, _, rfl, _, rfl, ?_⟩
    have hp2 := H2.rgn_perm
    have hym : y ∈ mm := hp2.mem_iff.1 (by simp)
    obtain ⟨w, hw, rfl⟩ := List.mem_map.1 (hp.mem_iff.1 hym)
    have hgw : mget now w.1 = some w.2 := mget_of_mem hk (show (w.1, w.2) ∈ now from hw)
    obtain ⟨⟨b, f⟩, hf⟩ : ∃ y, mget l w.2 = some y := Option.ne_none_iff_exists'.1 (hn w hw)
    have hb : blk l w.2 = b := by unfold blk; rw [hf]; rfl
    have hnd : ((done ++ [(w.1, blk l w.2)] ++ todo').map (·.1)).Nodup := by
      rw [(hp2.map _).nodup_iff, (hp.map _).nodup_iff, nmV_keys]; exact hk
    have hfresh : mget mx w.1 = none := by
      rw [mget_none, hmx, List.map_map]
      intro hq
      rw [List.map_append, List.map_append] at hnd
      have := (List.nodup_append.1 (List.nodup_append.1 hnd).1).2.2
      obtain ⟨z, hz, e⟩ := List.mem_map.1 hq
      exact this z.1 (List.mem_map_of_mem hz) w.1 (by simp) e
    have step : ∀ {h3 : Heap} {l2' : FM}, CpL l l2' → (∀ j, mget l2 j ≠ none → mget l2' j = mget l2 j) → mget l2' w.2 ≠ none →
        Hs h3 (pt o T_map_p_disk_file_p_disk_file [.map (some ro)] :: mp ptrV ptrV ro (OM l l2') :: fam filB l2' :: fam filB l :: rgn Value.string ptrV r i mm (done ++ [(w.1, blk l w.2)]) todo' :: mp Value.string ptrV rx mx :: pt x T_disk_Disk xs :: R) →
        hwp PP (Instr.mapUpdate T_disk_names (.map (some rx)) (.string w.1) (.pointer (some ⟨blk l2' w.2, 0, none⟩))) (fun _ h4 => disk_Disk_Clone.L1 (some ⟨p, 0, none⟩) ⟨x, 0, none⟩ (.func (.func F_disk_Disk_Clone_1) #[] #[.pointer (some ⟨o, 0, none⟩)]) (.pointer (some ⟨i, 0, none⟩)) K h4) h3 := by
      intro h3 l2' cp' hext hne H3
      refine H3.m5.mset U_disk_names Ky_str w.1 (blk l2' w.2) rfl fun h4 H4 => ?_
      refine ih (done := done ++ [(w.1, blk l w.2)]) (todo := todo') (l2 := l2') (mx := mset mx w.1 (blk l2' w.2)) (by have := q.length_eq; simp at this; omega) cp' (fun j e => ?_) ?_ (fun y hy => ?_) (H4.sel 6 [1, 2, 3, 4, 5, 0])
      · have e1 := hl0 j e
        rw [hext j (by rw [e1]; exact e), e1]
      · rw [mset_none hfresh, List.map_append, hmx]
        congr 1
        · refine List.map_congr_left fun z hz => ?_
          rw [blk_congr (hext _ (hdn z hz))]
        · show [(w.1, blk l2' w.2)] = [(w.1, blk l2' ((mget now w.1).getD 0))]
          rw [hgw]; rfl
      · rcases List.mem_append.1 hy with q | q
        · rw [hext _ (hdn y q)]; exact hdn y q
        · rw [List.mem_singleton.1 q]
          show mget l2' ((mget now w.1).getD 0) ≠ none
          rw [hgw]; exact hne
    have H3 := H2.sel 5 [1, 2, 3, 4, 0]
    show _ ∧ _ ∧ True
    dsimp only
    rw [hb] at *
    refine ⟨⟨_, H3.m6.cell (off := 1) hxs, copied_hs hf (hfl _ _ _ hf) nd cp H3 fun h4 l2' cp' hext hne H4 => ⟨_, rfl, step cp' hext hne H4⟩⟩,
      copied_hs hf (hfl _ _ _ hf) nd cp H3 fun h4 l2' cp' hext hne H4 => ⟨_, rfl, _, H4.m6.cell (off := 1) hxs, step cp' hext hne H4⟩, trivial⟩

theorem round2_hs {l : FM} {mm : List (Nm × Nat)} {r i x o ro rx : Nat} {xs : List Value} {K : Ex → Fr → Heap → Prop} (nd : (l.map (·.1)).Nodup) (hfl : ∀ i b f, mget l i = some (b, f) → f.bs.length ≤ 4194304)
    {now : List (Nm × Nat)} (hk : (now.map (·.1)).Nodup) (hp : mm.Perm (nmV l now)) (hn : ∀ x ∈ now, mget l x.2 ≠ none) (hxs : xs[2]? = some (.map (some rx)))
    {l0 : FM} (kk : ∀ h' l2 mx, CpL l l2 → (∀ j, mget l0 j ≠ none → mget l2 j = mget l0 j) → mx.Perm (nmV l2 now) → (∀ x ∈ now, mget l2 x.2 ≠ none) →
      Hs h' (pt o T_map_p_disk_file_p_disk_file [.map (some ro)] :: mp ptrV ptrV ro (OM l l2) :: fam filB l2 :: fam filB l :: mp Value.string ptrV r mm :: mp Value.string ptrV rx mx :: pt x T_disk_Disk xs :: R) → K (.exit 2) (disk_Disk_Clone.X2 (some ⟨p, 0, none⟩) ⟨x, 0, none⟩ (.func (.func F_disk_Disk_Clone_1) #[] #[.pointer (some ⟨o, 0, none⟩)])) h') :
    ∀ (k : Nat) {h : Heap} {l2 : FM} {mx done todo : List (Nm × Nat)}, todo.length = k → CpL l l2 → (∀ j, mget l0 j ≠ none → mget l2 j = mget l0 j) → mx = done.map (fun y => (y.1, blk l2 ((mget now y.1).getD 0))) → (∀ y ∈ done, mget l2 ((mget now y.1).getD 0) ≠ none) →
      Hs h (pt o T_map_p_disk_file_p_disk_file [.map (some ro)] :: mp ptrV ptrV ro (OM l l2) :: fam filB l2 :: fam filB l :: rgn Value.string ptrV r i mm done todo :: mp Value.string ptrV rx mx :: pt x T_disk_Disk xs :: R) →
      disk_Disk_Clone.L2 (some ⟨p, 0, none⟩) ⟨x, 0, none⟩ (.func (.func F_disk_Disk_Clone_1) #[] #[.pointer (some ⟨o, 0, none⟩)]) (.pointer (some ⟨i, 0, none⟩)) K h := by
  intro k
  induction k with
  | zero =>
    intro h l2 mx done todo hk0 cp hl0 hmx hdn H
    have : todo = [] := List.length_eq_zero_iff.1 hk0
    subst this
    refine disk_Disk_Clone.L2_of (H.m4.next (fun _ => ⟨false, [], rfl, br_false rfl ?_⟩) (fun h' x todo' p _ => by simp at p))
    have hp2 := H.m4.rgn_perm
    rw [List.append_nil] at hp2
    have hdp : done.Perm (nmV l now) := hp2.trans hp
    refine kk h l2 mx cp hl0 ?_ (fun y hy => ?_) ?_
    · rw [hmx]
      refine (hdp.map _).trans ?_
      unfold nmV
      rw [List.map_map]
      refine List.Perm.of_eq (List.map_congr_left fun y hy => ?_)
      show (y.1, blk l2 ((mget now y.1).getD 0)) = _
      rw [mget_of_mem hk (show (y.1, y.2) ∈ now from hy)]; rfl
    · have : (y.1, blk l y.2) ∈ done := hdp.mem_iff.2 (List.mem_map.2 ⟨y, hy, rfl⟩)
      have := hdn _ this
      rw [show mget now (y.1, blk l y.2).1 = some y.2 from mget_of_mem hk (show (y.1, y.2) ∈ now from hy)] at this
      exact this
    · exact (H.m4.rgn_end).sel 5 [1, 2, 3, 4, 0]
  | succ k ih =>
    intro h l2 mx done todo hk0 cp hl0 hmx hdn H
    refine disk_Disk_Clone.L2_of (H.m4.next (fun e => by rw [e] at hk0; cases hk0) (fun h2 y todo' q H2 => ⟨true, [.string y.1, ptrV y.2], rfl, br_true rfl ?_⟩))
    refine H2.entry ⟨_, _, rfl, _, rfl, _, rfl, ?_⟩
    have hp2 := H2.rgn_perm
    have hym : y ∈ mm := hp2.mem_iff.1 (by simp)
    obtain ⟨w, hw, rfl⟩ := List.mem_map.1 (hp.mem_iff.1 hym)
    have hgw : mget now w.1 = some w.2 := mget_of_mem hk (show (w.1, w.2) ∈ now from hw)
    obtain ⟨⟨b, f⟩, hf⟩ : ∃ y, mget l w.2 = some y := Option.ne_none_iff_exists'.1 (hn w hw)
    have hb : blk l w.2 = b := by unfold blk; rw [hf]; rfl
    have hnd : ((done ++ [(w.1, blk l w.2)] ++ todo').map (·.1)).Nodup := by
      rw [(hp2.map _).nodup_iff, (hp.map _).nodup_iff, nmV_keys]; exact hk
    have hfresh : mget mx w.1 = none := by
      rw [mget_none, hmx, List.map_map]
      intro hq
      rw [List.map_append, List.map_append] at hnd
      have := (List.nodup_append.1 (List.nodup_append.1 hnd).1).2.2
      obtain ⟨z, hz, e⟩ := List.mem_map.1 hq
      exact this z.1 (List.mem_map_of_mem hz) w.1 (by simp) e
    have step : ∀ {h3 : Heap} {l2' : FM}, CpL l l2' → (∀ j, mget l2 j ≠ none → mget l2' j = mget l2 j) → mget l2' w.2 ≠ none →
        Hs h3 (pt o T_map_p_disk_file_p_disk_file [.map (some ro)] :: mp ptrV ptrV ro (OM l l2') :: fam filB l2' :: fam filB l :: rgn Value.string ptrV r i mm (done ++ [(w.1, blk l w.2)]) todo' :: mp Value.string ptrV rx mx :: pt x T_disk_Disk xs :: R) →
        hwp PP (Instr.mapUpdate T_disk_names (.map (some rx)) (.string w.1) (.pointer (some ⟨blk l2' w.2, 0, none⟩))) (fun _ h4 => disk_Disk_Clone.L2 (some ⟨p, 0, none⟩) ⟨x, 0, none⟩ (.func (.func F_disk_Disk_Clone_1) #[] #[.pointer (some ⟨o, 0, none⟩)]) (.pointer (some ⟨i, 0, none⟩)) K h4) h3 := by
      intro h3 l2' cp' hext hne H3
      refine H3.m5.mset U_disk_names Ky_str w.1 (blk l2' w.2) rfl fun h4 H4 => ?_
      refine ih (done := done ++ [(w.1, blk l w.2)]) (todo := todo') (l2 := l2') (mx := mset mx w.1 (blk l2' w.2)) (by have := q.length_eq; simp at this; omega) cp' (fun j e => ?_) ?_ (fun y hy => ?_) (H4.sel 6 [1, 2, 3, 4, 5, 0])
      · have e1 := hl0 j e
        rw [hext j (by rw [e1]; exact e), e1]
      · rw [mset_none hfresh, List.map_append, hmx]
        congr 1
        · refine List.map_congr_left fun z hz => ?_
          rw [blk_congr (hext _ (hdn z hz))]
        · show [(w.1, blk l2' w.2)] = [(w.1, blk l2' ((mget now w.1).getD 0))]
          rw [hgw]; rfl
      · rcases List.mem_append.1 hy with q | q
        · rw [hext _ (hdn y q)]; exact hdn y q
        · rw [List.mem_singleton.1 q]
          show mget l2' ((mget now w.1).getD 0) ≠ none
          rw [hgw]; exact hne
    have H3 := H2.sel 5 [1, 2, 3, 4, 0]
    show _ ∧ _ ∧ True
    dsimp only
    rw [hb] at *
    refine ⟨⟨_, H3.m6.cell (off := 2) hxs, copied_hs hf (hfl _ _ _ hf) nd cp H3 fun h4 l2' cp' hext hne H4 => ⟨_, rfl, step cp' hext hne H4⟩⟩,
      copied_hs hf (hfl _ _ _ hf) nd cp H3 fun h4 l2' cp' hext hne H4 => ⟨_, rfl, _, H4.m6.cell (off := 2) hxs, step cp' hext hne H4⟩, trivial⟩
end Go.Proofs.Ytkogmkajhjmkeaa

set_option maxRecDepth 20000
set_option linter.unusedVariables false
set_option linter.unusedSimpArgs false
namespace Go.Proofs.Ytkogmkajhjmkeaa
open Go Go.HW
variable {h : Heap} {L R : List Assn} {Q : Value → Heap → Prop} {p : Nat} {d : DS} {n : Nm}
theorem round3_hs {l : FM} {x o ro rn2 rs2 : Nat} {a : OA} {c : Nat} {K : Ex → Fr → Heap → Prop} (nd : (l.map (·.1)).Nodup) (hfl : ∀ i b f, mget l i = some (b, f) → f.bs.length ≤ 4194304)
    (hc : ∀ cg ∈ d.chg, cg.to ≠ e0 → mget l cg.f ≠ none) (hsz : d.chg.length < 2 ^ 40)
    {l0 : FM} (kk : ∀ h' l2 a2 c2, CpL l l2 → (∀ j, mget l0 j ≠ none → mget l2 j = mget l0 j) → (∀ cg ∈ d.chg, cg.to ≠ e0 → mget l2 cg.f ≠ none) →
      Hs h' (pt o T_map_p_disk_file_p_disk_file [.map (some ro)] :: mp ptrV ptrV ro (OM l l2) :: fam filB l2 :: fam filB l :: pt x T_disk_Disk (dkV d rn2 rs2 a2 c2) :: own a2 d.chg.length c2 T_disk_change 3 (d.chg.flatMap (chV l2)) :: own a d.chg.length c T_disk_change 3 (d.chg.flatMap (chV l)) :: R) →
      K (.exit 4) (disk_Disk_Clone.X4 ⟨x, 0, none⟩) h') :
    ∀ (k j : Nat) {h : Heap} {l2 : FM} {a2 : OA} {c2 : Nat}, j + k = d.chg.length → CpL l l2 → (∀ j, mget l0 j ≠ none → mget l2 j = mget l0 j) → (∀ cg ∈ d.chg.take j, cg.to ≠ e0 → mget l2 cg.f ≠ none) →
      Hs h (pt o T_map_p_disk_file_p_disk_file [.map (some ro)] :: mp ptrV ptrV ro (OM l l2) :: fam filB l2 :: fam filB l :: pt x T_disk_Disk (dkV { d with chg := d.chg.take j } rn2 rs2 a2 c2) :: own a2 j c2 T_disk_change 3 ((d.chg.take j).flatMap (chV l2)) :: own a d.chg.length c T_disk_change 3 (d.chg.flatMap (chV l)) :: R) →
      disk_Disk_Clone.L3 ⟨x, 0, none⟩ (.func (.func F_disk_Disk_Clone_1) #[] #[.pointer (some ⟨o, 0, none⟩)]) a d.chg.length c (d.chg.length : Nat) (j : Nat) K h := by
  intro k
  induction k with
  | zero =>
    intro j h l2 a2 c2 hj cp hl0 hdn H
    have : j = d.chg.length := by omega
    subst this
    rw [List.take_length] at H hdn
    exact disk_Disk_Clone.L3_of (br_false (decide_eq_false (by omega)) (kk h l2 a2 c2 cp hl0 hdn H))
  | succ k ih =>
    intro j h l2 a2 c2 hj cp hl0 hdn H
    have hjn : j < d.chg.length := by omega
    refine disk_Disk_Clone.L3_of (br_true (decide_eq_true (by omega)) ?_)
    refine idxf E_sl_disk_change (φ := chV l) (l := d.chg) (x := d.chg[j]) H.m6.rd (chV_len l) (by decide) (by omega) (by omega) (by rw [Int.toNat_natCast, List.getElem?_eq_getElem hjn]) fun t ht => ⟨_, _, _, ht, ?_⟩
    have hcg := hc d.chg[j] (List.getElem_mem hjn)
    have htk : d.chg.take (j + 1) = d.chg.take j ++ [d.chg[j]] := List.take_succ_eq_append_getElem hjn
    generalize d.chg[j] = cg at *
    have H2 := H.new (t := T_disk_change) (cs := #[.string ⟨#[]⟩, .string ⟨#[]⟩, .pointer none]) (xs := [.string ⟨#[]⟩, .string ⟨#[]⟩, .pointer none])
    dsimp only
    generalize Array.size h = kn at H2 ⊢
    generalize Array.push h _ = h2 at H2 ⊢
    refine Hs.wrs (b := kn) (vs := chV l cg) H2 (fun h3 H3 => ?_) rfl (chV_one l _)
    refine ⟨_, H3.cell (off := 2) rfl, ?_⟩
    have hlen : (d.chg.take j).length = j := by rw [List.length_take]; omega
    have call : ∀ {h : Heap} {K : VP}, Hs h (pt kn T_disk_change (chV l cg) :: pt o T_map_p_disk_file_p_disk_file [.map (some ro)] :: mp ptrV ptrV ro (OM l l2) :: fam filB l2 :: fam filB l :: pt x T_disk_Disk (dkV { d with chg := d.chg.take j } rn2 rs2 a2 c2) :: own a2 j c2 T_disk_change 3 ((d.chg.take j).flatMap (chV l2)) :: own a d.chg.length c T_disk_change 3 (d.chg.flatMap (chV l)) :: R) →
        (∀ h' l2', CpL l l2' → (∀ j, mget l2 j ≠ none → mget l2' j = mget l2 j) → (cg.to ≠ e0 → mget l2' cg.f ≠ none) →
          Hs h' (pt kn T_disk_change (chV l cg) :: pt o T_map_p_disk_file_p_disk_file [.map (some ro)] :: mp ptrV ptrV ro (OM l l2') :: fam filB l2' :: fam filB l :: pt x T_disk_Disk (dkV { d with chg := d.chg.take j } rn2 rs2 a2 c2) :: own a2 j c2 T_disk_change 3 ((d.chg.take j).flatMap (chV l2)) :: own a d.chg.length c T_disk_change 3 (d.chg.flatMap (chV l)) :: R) → K (.pointer (cptr l2' cg)) h') →
        callV PP (.func (.func F_disk_Disk_Clone_1) #[] #[.pointer (some ⟨o, 0, none⟩)]) [.pointer (cptr l cg)] K h := by
      intro h K H kk
      by_cases q : cg.to = e0
      · have e : ∀ l, cptr l cg = none := fun l => by unfold cptr; rw [if_pos q]
        rw [e l]
        have := kk h l2 cp (fun _ _ => rfl) (fun q2 => absurd q q2) H
        rw [e l2] at this
        exact copied_nil this
      · obtain ⟨⟨b, f⟩, hf⟩ : ∃ y, mget l cg.f = some y := Option.ne_none_iff_exists'.1 (hcg q)
        have hb : blk l cg.f = b := by unfold blk; rw [hf]; rfl
        have e : ∀ l, cptr l cg = some ⟨blk l cg.f, 0, none⟩ := fun l => by unfold cptr; rw [if_neg q]
        rw [e l, hb]
        refine copied_hs hf (hfl _ _ _ hf) nd cp (H.sel 5 [1, 2, 3, 4, 0]) fun h' l2' cp' hext hne H' => ?_
        have := kk h' l2' cp' hext (fun _ => hne) (H'.sel 5 [4, 0, 1, 2, 3])
        rw [e l2'] at this
        exact this
    have fin : ∀ {h : Heap} {l2' : FM}, CpL l l2' → (∀ j, mget l2 j ≠ none → mget l2' j = mget l2 j) → (cg.to ≠ e0 → mget l2' cg.f ≠ none) →
        Hs h (pt kn T_disk_change (chV l cg) :: pt o T_map_p_disk_file_p_disk_file [.map (some ro)] :: mp ptrV ptrV ro (OM l l2') :: fam filB l2' :: fam filB l :: pt x T_disk_Disk (dkV { d with chg := d.chg.take j } rn2 rs2 a2 c2) :: own a2 j c2 T_disk_change 3 ((d.chg.take j).flatMap (chV l2)) :: own a d.chg.length c T_disk_change 3 (d.chg.flatMap (chV l)) :: R) →
        hwp PP (Builtin.append_ #[T_sl_disk_change, T_sl_disk_change] T_sl_disk_change #[(.slice a2 (d.chg.take j).length c2), (.slice (some ⟨Array.size h, 0, none⟩) 1 1)]) (fun v_32 h66 => ∃ (t77_15 : OA) (t77_15n t77_15c : Nat), v_32 = (.slice t77_15 t77_15n t77_15c) ∧
          wr (Addr.add ⟨x, 0, none⟩ 3) (.slice t77_15 t77_15n t77_15c) (fun h67 => disk_Disk_Clone.J1 ⟨x, 0, none⟩ (.func (.func F_disk_Disk_Clone_1) #[] #[.pointer (some ⟨o, 0, none⟩)]) a d.chg.length c (d.chg.length : Nat) (j : Nat) K h67) h66)
          (Array.push h (.cells #[(.string cg.fr), (.string cg.to), (.pointer (cptr l2' cg))] T_disk_change (0, 0))) := by
      intro h l2' cp' hext hne H
      rw [hlen]
      have ecs : (d.chg.take j).flatMap (chV l2) = (d.chg.take j).flatMap (chV l2') := chVs_congr fun c' hc' q => (blk_congr (hext _ (hdn c' hc' q))).symm
      rw [ecs] at H
      refine H.m6.app_vals E_sl_disk_change (m := 1) (ys := chV l2' cg) rfl rfl (chV_one l2' cg) (fun h4 a' c' H4 => ⟨_, _, _, rfl, ?_⟩) (by omega) (by omega)
      refine (H4.m6).sto (off := 3) (by simp [dkV]) fun h5 H5 => ?_
      refine disk_Disk_Clone.J1_of ?_
      rw [inc (by omega)]
      have e1 : (d.chg.take j).flatMap (chV l2') ++ chV l2' cg = (d.chg.take (j + 1)).flatMap (chV l2') := by rw [htk]; simp
      rw [e1] at H5
      have e2 : (dkV { d with chg := d.chg.take j } rn2 rs2 a2 c2).set 3 (.slice a' (j + 1) c') = dkV { d with chg := d.chg.take (j + 1) } rn2 rs2 a' c' := by
        simp [dkV, List.length_take]; omega
      rw [e2] at H5
      refine ih (j + 1) (by omega) cp' (fun i e => ?_) (fun c' hc' q => ?_) (H5.sel 8 [3, 4, 5, 6, 0, 1, 7])
      · have e1 := hl0 i e
        rw [hext i (by rw [e1]; exact e), e1]
      · rw [htk] at hc'
        rcases List.mem_append.1 hc' with r | r
        · rw [hext _ (hdn c' r q)]; exact hdn c' r q
        · rw [List.mem_singleton.1 r] at q ⊢; exact hne q
    repeat' first
      | exact trivial
      | refine And.intro ?_ ?_
      | refine ⟨_, _, _, H3.m5.cell (off := 3) rfl, ?_⟩
      | refine ⟨_, H3.cell (off := 0) rfl, ?_⟩
      | refine ⟨_, H3.cell (off := 1) rfl, ?_⟩
      | refine call H3 fun h' l2' cp' hext hne H' => ⟨_, rfl, ?_⟩
      | refine ⟨_, _, _, H'.m5.cell (off := 3) rfl, ?_⟩
      | refine ⟨_, H'.cell (off := 0) rfl, ?_⟩
      | refine ⟨_, H'.cell (off := 1) rfl, ?_⟩
      | exact fin cp' hext hne H'
theorem Clone_hs (hd : DI d) (hb : d.steps < 2 ^ 38) (H : Hs h (diskA p d :: L)) (kk : ∀ h' x, Hs h' (diskA x d :: diskA p d :: L) → Q (.pointer (some ⟨x, 0, none⟩)) h') :
    SpecH PP F_disk_Disk_Clone [.pointer (some ⟨p, 0, none⟩)] h Q := by
  obtain ⟨l, mn, ms, rn, rs, a, c, lk, H1⟩ := diskA_open.1 H
  have hcl := hd.cl
  have hfl : ∀ i b f, mget l i = some (b, f) → f.bs.length ≤ 4194304 := fun i b f e => by
    obtain ⟨_, q⟩ := lk.fl i b f e
    rw [← q]; exact (hd.fl_ok i).2
  refine disk_Disk_Clone.door (br_false rfl ?_)
  refine ⟨_, _, _, _, _, _, _, _, _, H1.rdc0, ?_⟩
  have H2 := H1.new (t := T_disk_Disk) (cs := #[.int .i64 0, .map none, .map none, .slice none 0 0, .int .i64 0, .bool false, .int .i64 0]) (xs := [.int .i64 0, .map none, .map none, .slice none 0 0, .int .i64 0, .bool false, .int .i64 0])
  dsimp only
  generalize Array.size h = x at H2 ⊢
  generalize Array.push h _ = h1 at H2 ⊢
  refine Hs.wrs (b := x) (vs := dkV d rn rs a c) H2 (fun h2 H3 => ?_) rfl (by intro v hv; simp [dkV] at hv; rcases hv with rfl | rfl | rfl | rfl | rfl | rfl | rfl <;> rfl)
  have H4 := H3.mp_new (κ := ptrV) (ν := ptrV) (α := Nat) (β := Nat)
  generalize Array.size h2 = ro at H4 ⊢
  generalize Array.push h2 _ = h3 at H4 ⊢
  have H5 := H4.new (t := T_map_p_disk_file_p_disk_file) (cs := #[.map none]) (xs := [.map none])
  generalize Array.size h3 = o at H5 ⊢
  generalize Array.push h3 _ = h4 at H5 ⊢
  refine H5.sto (off := 0) (by simp) fun h5 H6 => ?_
  have H7 := H6.mp_new (κ := Value.string) (ν := ptrV)
  generalize Array.size h5 = rn2 at H7 ⊢
  generalize Array.push h5 _ = h6 at H7 ⊢
  have H8 := H7.mp_new (κ := Value.string) (ν := ptrV)
  generalize Array.size h6 = rs2 at H8 ⊢
  generalize Array.push h6 _ = h7 at H8 ⊢
  refine (H8.m4).sto (off := 1) (by simp [dkV]) fun h8 H9 => ?_
  refine H9.sto (off := 2) (by simp [dkV]) fun h9 H10 => ?_
  refine H10.sto (off := 3) (by simp [dkV]) fun h10 H11 => ?_
  have e1 : (((dkV d rn rs a c).set 1 (.map (some rn2))).set 2 (.map (some rs2))).set 3 (.slice none 0 0) = dkV { d with chg := d.chg.take 0 } rn2 rs2 none 0 := by simp [dkV]
  rw [e1] at H11
  -- 0 x, 1 rs2, 2 rn2, 3 o, 4 ro, 5 p, 6 rn, 7 rs, 8 own, 9 fam
  refine ⟨_, H11.m5.cell (off := 1) rfl, ?_⟩
  refine H11.m6.range U_disk_names fun h11 i1 H12 => ⟨_, rfl, ?_⟩
  -- 0 rgn, 1 x, 2 rs2, 3 rn2, 4 o, 5 ro, 6 p, 7 rs, 8 own, 9 fam
  have H13 := (H12.fam_new (α := Nat) (A := filB)).sel 11 [5, 6, 0, 10, 1, 4, 2, 3, 7, 8, 9]
  refine round1_hs (l0 := []) (xs := dkV { d with chg := d.chg.take 0 } rn2 rs2 none 0) lk.nd hfl hd.keys lk.n lk.hn rfl ?_ mn.length (l2 := []) (mx := []) (done := []) (todo := mn) rfl ⟨by simp, by simp [mget_nil]⟩ (fun j e => absurd (mget_nil j) e) rfl nofun H13
  intro h12 l2 mx cp1 _ hmx hn1 H14
  refine disk_Disk_Clone.L1_X0 ⟨_, H14.m8.cell (off := 2) rfl, ?_⟩
  -- 0 o 1 ro 2 fam2 3 fam 4 rn 5 rn2 6 x 7 rs2 8 p 9 rs 10 own
  refine (H14.sel 11 [9, 0, 1, 2, 3, 4, 5, 6, 7, 8, 10]).range U_disk_names fun h13 i2 H15 => ⟨_, rfl, ?_⟩
  -- 0 rgn 1 o 2 ro 3 fam2 4 fam 5 rn 6 rn2 7 x 8 rs2 9 p 10 own
  have H16 := H15.sel 11 [1, 2, 3, 4, 0, 8, 7, 6, 9, 5, 10]
  refine round2_hs (l0 := l2) (xs := dkV { d with chg := d.chg.take 0 } rn2 rs2 none 0) lk.nd hfl hd.ris.nodup lk.s lk.hs rfl ?_ ms.length (mx := []) (done := []) (todo := ms) rfl cp1 (fun _ _ => rfl) rfl nofun H16
  intro h14 l3 mx2 cp2 hext hmx2 hn2 H17
  -- 0 o 1 ro 2 fam2 3 fam 4 rs 5 rs2 6 x 7 rn2 8 p 9 rn 10 own
  refine disk_Disk_Clone.L2_X2 ⟨_, _, _, H17.m8.cell (off := 3) rfl, ?_⟩
  have H18 := (H17.own_nil T_disk_change 3).sel 12 [1, 2, 3, 4, 7, 0, 11, 5, 6, 8, 9, 10]
  refine round3_hs (d := d) (l0 := l3) lk.nd hfl lk.hc (by omega) ?_ d.chg.length 0 (by omega) cp2 (fun _ _ => rfl) (by simp) H18
  intro h15 l4 a2 c2 cp3 hext2 hn3 H19
  -- 0 o 1 ro 2 fam4 3 fam 4 x 5 own2 6 own 7 rs 8 rs2 9 rn2 10 p 11 rn
  refine disk_Disk_Clone.L3_X4 (kk h15 x (diskA_open.2 ⟨l4, mx, mx2, rn2, rs2, a2, c2, ⟨cp3.nd, fun i b f e => ?_, ?_, ?_, fun y hy => ?_, fun y hy => ?_, hn3⟩, ?_⟩))
  · obtain ⟨b0, hb0⟩ := cp3.fl i b f e
    exact lk.fl i b0 f hb0
  · rw [nmV_congr (l := l2) fun y hy => blk_congr ?_]
    · exact hmx
    · have q := hn1 y hy
      have e1 := hext _ q
      rw [hext2 _ (by rw [e1]; exact q), e1]
  · rw [nmV_congr (l := l3) fun y hy => blk_congr (hext2 _ (hn2 y hy))]
    exact hmx2
  · have q := hn1 y hy
    have e1 := hext _ q
    rw [hext2 _ (by rw [e1]; exact q), e1]; exact q
  · have q := hn2 y hy
    rw [hext2 _ q]; exact q
  · have H20 := H19.sel 12 [10, 11, 7, 6, 3, 4, 9, 8, 5, 2]
    exact ((diskA_open.2 ⟨l, mn, ms, rn, rs, a, c, lk, H20⟩).sel 6 [1, 2, 3, 4, 5, 0])
end Go.Proofs.Ytkogmkajhjmkeaa

set_option maxRecDepth 20000
set_option linter.unusedVariables false
set_option linter.unusedSimpArgs false
namespace Go.Proofs.Ytkogmkajhjmkeaa
open Go Go.HW
variable {h : Heap} {L : List Assn} {Q : Value → Heap → Prop} {p : Nat} {d : DS} {n : Nm}
theorem ownB_nil (H : Hs h L) : Hs h (ownB none 0 0 T_uint8 [] :: L) := ownB_open.2 ⟨[], ⟨rfl, rfl⟩, H.own_nil _ _⟩
theorem cloneZ_hs {a : OA} {m c : Nat} {bs : List Nat} (g : Gv L a (nV bs)) (hm : bs.length = m) (hb : m < 2 ^ 40) (hn : a = none → m = 0) (H : Hs h L) (kk : ∀ h' a' c', c' < 2 ^ 63 → Hs h' (ownB a' m c' T_uint8 bs :: L) → Q (.slice a' m c') h') :
    SpecH PP F_slices_Clone_byte_byte [.slice a m c] h Q := by
  refine slices_Clone_byte_byte.door ?_
  cases a with
  | none =>
    have : m = 0 := hn rfl
    subst this
    have : bs = [] := List.length_eq_zero_iff.1 hm
    subst this
    exact br_true rfl (kk h none 0 (by omega) (ownB_nil H))
  | some a =>
    refine br_false rfl ?_
    have H1 := H.new (t := T_uint8) (cs := #[]) (xs := [])
    dsimp only
    generalize Array.size h = k at H1 ⊢
    generalize Array.push h _ = h1 at H1 ⊢
    by_cases h0 : m = 0
    · subst h0
      have : bs = [] := List.length_eq_zero_iff.1 hm
      subst this
      refine hwp_append_0 E_sl_uint8 (Nat.le_refl _) ⟨_, _, _, rfl, kk h1 (some ⟨k, 0, none⟩) 0 (by omega) (ownB_open.2 ⟨[], ⟨rfl, rfl⟩, ?_⟩)⟩
      exact H1.pt_own 0 rfl rfl (Nat.le_refl _) (by simp)
    · refine hwp_append_z E_sl_uint8 rfl rfl (ut := .slice T_uint8) U_sl_uint8 rfl (xs := []) (ys := nV bs) (m := m) (by omega) rfl (fun i v hv => by simp at hv) (fun e => nomatch e) ⟨rfl, by rw [nV_len]; omega, g _ H1.tl, fun e => nomatch e⟩ (by omega) (by omega) fun c' hc' hc2 => ⟨_, _, _, rfl, ?_⟩
      rw [Nat.zero_add] at hc' ⊢
      rw [List.nil_append]
      have ez : nV bs ++ List.replicate (c' - m) (.int .u8 0) = nV (bs ++ List.replicate (c' - m) 0) := by rw [nV_app, nV_rep]
      rw [ez]
      have H2 := H1.tl.new (t := T_uint8) (cs := (nV (bs ++ List.replicate (c' - m) 0)).toArray) (xs := nV (bs ++ List.replicate (c' - m) 0))
      refine kk _ _ c' hc2 (ownB_open.2 ⟨List.replicate (c' - m) 0, ⟨by simp; omega, hm⟩, H2.pt_own (n := c') (c := c') 0 ?_ ?_ (Nat.le_refl _) ?_⟩)
      · rw [List.drop_zero, List.take_of_length_le]; rw [nV_len]; simp; omega
      · rw [nV_len]; simp; omega
      · rw [nV_len]; simp; omega
theorem ReadZ_hs (hd : DI d) (H : Hs h (diskA p d :: L)) (kk : ∀ h' a c, c < 2 ^ 63 → Hs h' (ownB a (d.read n).1.length c T_uint8 (d.read n).1 :: diskA p d :: L) → Q (.tuple #[.slice a (d.read n).1.length c, .int .i64 (d.read n).2]) h') :
    SpecH PP F_disk_Disk_Read [.pointer (some ⟨p, 0, none⟩), .string n] h Q := by
  obtain ⟨l, mn, ms, rn, rs, a, c, lk, H1⟩ := diskA_open.1 H
  unfold DS.read at kk
  refine disk_Disk_Read.door (find_hs lk.n hd.keys H1 (fun e => ?_) (fun e e2 => ?_) (fun i e e2 => ?_))
  · rw [if_pos e] at kk; exact ⟨_, _, rfl, br_true rfl (kk h none 0 (by omega) (ownB_nil H))⟩
  · rw [if_neg (by rw [e]; simp), e2] at kk; exact ⟨_, _, rfl, br_true rfl (kk h none 0 (by omega) (ownB_nil H))⟩
  rw [if_neg (by rw [e]; simp), e2] at kk
  have hf := lkfil lk e2
  obtain ⟨a1, n1, c1, H2⟩ := fil_at lk.nd hf H1.m4
  have hl := H2.m1.own_len
  rw [nV_len, Nat.mul_one] at hl
  refine ⟨_, _, rfl, br_false rfl ⟨_, _, _, H2.cell (off := 0) rfl, ?_⟩⟩
  subst hl
  refine cloneZ_hs (L := own a1 (d.fl i).bs.length c1 T_uint8 1 (nV (d.fl i).bs) :: _) Gv.own rfl (by have := (hd.fl_ok i).2; omega) (own_none_len H2.m1) H2.m1 fun h3 a3 c3 hc3 H3 => ⟨_, _, _, rfl, kk h3 a3 c3 hc3 ?_⟩
  have H4 := (filB_open (x := (blk l i, d.fl i))).2 ⟨a1, _, c1, H3.sel 3 [2, 1, 0]⟩
  have H5 := Hs.fam_back (k := i) (x := (blk l i, d.fl i)) (H4.sel 3 [0, 2, 1]) lk.nd hf
  exact (diskA_open.2 ⟨l, mn, ms, rn, rs, a, c, lk, H5.sel 6 [2, 3, 4, 5, 0, 1]⟩).m1
end Go.Proofs.Ytkogmkajhjmkeaa

set_option maxRecDepth 20000
set_option linter.unusedVariables false
set_option linter.unusedSimpArgs false
namespace Go.Proofs.Ytkogmkajhjmkeaa
open Go Go.HW
variable {h : Heap} {L : List Assn} {Q : Value → Heap → Prop}
def ndV (x : Nm × Nat) : List Value := [.string x.1, .int .i64 (x.2 : Nat)]
theorem ndV_len (x : Nm × Nat) : (ndV x).length = 2 := rfl
theorem ndV_one (v : Nm × Nat) : ∀ x ∈ ndV v, oneC x = true := by
  intro x hx; simp [ndV] at hx; rcases hx with rfl | rfl <;> rfl
theorem ndVs_one (l : List (Nm × Nat)) : ∀ x ∈ l.flatMap ndV, oneC x = true := by
  intro x hx
  obtain ⟨y, _, hy⟩ := List.mem_flatMap.1 hx
  exact ndV_one y x hy
/-- A name of a row is read. -/
theorem nd_idx {a : OA} {n c i : Nat} {l : List (Nm × Nat)} {R : Addr → Heap → Prop} (r : Rd h a (l.flatMap ndV)) (hn : l.length = n) (hi : i < n)
    (K : ∀ t, rdCells h t 0 (ndV (l[i]'(by omega))) → R t h) : hwp PP (Instr.indexAt T_sl_haversackref09_Named (.slice a n c) (.int .i64 (i : Nat))) (fun u h1 => ∃ t, u = .pointer (some t) ∧ R t h1) h :=
  idxf E_sl_haversackref09_Named (φ := ndV) (l := l) (x := l[i]'(by omega)) r ndV_len (by decide) (by omega) (by omega) (by rw [Int.toNat_natCast, List.getElem?_eq_getElem (by omega)]) K
theorem nd_s {t : Addr} {x : Nm × Nat} (r : rdCells h t 0 (ndV x)) : cellH h t = some (.string x.1) := by
  have := r.1; rwa [show Addr.add t 0 = t from by cases t; rfl] at this
theorem nd_f {t : Addr} {x : Nm × Nat} (r : rdCells h t 0 (ndV x)) : cellH h (Addr.add t 1) = some (.int .i64 (x.2 : Nat)) := r.2.1
def pos (l : List (Nm × Nat)) (nm : Nm) : Int := match l.findIdx? (fun x => decide (x.1 = nm)) with | some i => (i : Int) | none => -1
theorem find_hs09 {a : OA} {n c : Nat} {l : List (Nm × Nat)} {nm : Nm} (g : Gv L a (l.flatMap ndV)) (hn : l.length = n) (hb : n < 2 ^ 40) (H : Hs h L)
    (k1 : ∀ i (hi : i < l.length), l[i].1 = nm → mget l nm = some l[i].2 → Q (.int .i64 (i : Nat)) h) (k2 : mget l nm = none → Q (.int .i64 (-1)) h) : SpecH PP F_ref09_find [.slice a n c, .string nm] h Q := by
  refine ref09_find.door ?_
  have go : ∀ (k i : Nat), i + k = n → (∀ j (hj : j < l.length), j < i → l[j].1 ≠ nm) → ref09_find.L1 a n c nm (i : Nat) (ref09_find.K1 Q) h := by
    intro k
    induction k with
    | zero =>
      intro i hi hb
      refine ref09_find.L1_of (br_false (decide_eq_false (by omega)) (ref09_find.L1_X0 (k2 ?_)))
      rw [mget_none]
      intro q
      obtain ⟨x, hx, e⟩ := List.mem_map.1 q
      obtain ⟨j, hj, e2⟩ := List.getElem_of_mem hx
      exact hb j hj (by omega) (by rw [e2]; exact e)
    | succ k ih =>
      intro i hi hb
      have hin : i < l.length := by omega
      refine ref09_find.L1_of (br_true (decide_eq_true (by omega)) ?_)
      refine nd_idx (g h H) hn (by omega) fun t ht => ⟨_, nd_s ht, (br_iff _ _ _).2 ⟨fun e => ?_, fun e => ?_⟩⟩
      · have e := of_decide_eq_true e
        refine ref09_find.L1_Xret (k1 i hin e ?_)
        have hf : ∀ (l : List (Nm × Nat)) (i : Nat) (hi : i < l.length), l[i].1 = nm → (∀ j (hj : j < l.length), j < i → l[j].1 ≠ nm) → mget l nm = some l[i].2 := by
          intro l
          induction l with
          | nil => intro i hi; cases hi
          | cons x l ihl =>
            intro i hi h1 h2
            rw [mget_cons]
            cases i with
            | zero => rw [if_pos (show x.1 = nm from h1)]; rfl
            | succ i =>
              rw [if_neg (show ¬ x.1 = nm from h2 0 (by simp) (by omega))]
              exact ihl i (by simpa using hi) h1 fun j hj hji => h2 (j + 1) (by simpa using hj) (by omega)
        exact hf l i hin e hb
      · have e := of_decide_eq_false e
        dsimp only
        rw [inc (by omega)]
        refine ih (i + 1) (by omega) fun j hj hji => ?_
        rcases Nat.lt_or_ge j i with q | q
        · exact hb j hj q
        · have : j = i := by omega
          subst this; exact e
  exact go n 0 (by omega) (fun j hj h0 => by omega)
theorem nd_app {l : List (Nm × Nat)} {a : OA} {c : Nat} {w : Nm × Nat} {h : Heap} {K : VP} (hs : l.length ≤ 2 ^ 40) (H : Hs h (own a l.length c T_haversackref09_Named 2 (l.flatMap ndV) :: L))
    (k : ∀ h' a' c', Hs h' (own a' (l ++ [w]).length c' T_haversackref09_Named 2 ((l ++ [w]).flatMap ndV) :: L) → K (.slice a' (l ++ [w]).length c') h') :
    hwp PP (Builtin.append_ #[T_sl_haversackref09_Named, T_sl_haversackref09_Named] T_sl_haversackref09_Named #[.slice a l.length c, .slice (some ⟨Array.size h, 0, none⟩) 1 1]) K (Array.push h (.cells #[.string w.1, .int .i64 (w.2 : Nat)] T_haversackref09_Named (0, 0))) := by
  refine H.app_vals E_sl_haversackref09_Named (m := 1) (ys := ndV w) rfl rfl (ndV_one w) (fun h' a' c' H' => ?_) (by omega) (by omega)
  have e : l.flatMap ndV ++ ndV w = (l ++ [w]).flatMap ndV := by simp
  rw [e] at H'
  have := k h' a' c'
  rw [List.length_append] at this
  exact this H'
theorem without_hs {a : OA} {n c : Nat} {l : List (Nm × Nat)} {nm : Nm} (g : Gv L a (l.flatMap ndV)) (hn : l.length = n) (hb : n < 2 ^ 40) (H : Hs h L)
    (kk : ∀ h' a' c', Hs h' (own a' (mdel l nm).length c' T_haversackref09_Named 2 ((mdel l nm).flatMap ndV) :: L) → Q (.slice a' (mdel l nm).length c') h') : SpecH PP F_ref09_without [.slice a n c, .string nm] h Q := by
  refine ref09_without.door ?_
  have go : ∀ (k i : Nat) {h : Heap} {a2 : OA} {c2 : Nat} {out : List (Nm × Nat)}, i + k = n → out = mdel (l.take i) nm → Hs h (own a2 out.length c2 T_haversackref09_Named 2 (out.flatMap ndV) :: L) →
      ref09_without.L1 a n c nm a2 out.length c2 (i : Nat) (ref09_without.K1 Q) h := by
    intro k
    induction k with
    | zero =>
      intro i h a2 c2 out hi ho H
      rw [List.take_of_length_le (by omega)] at ho
      subst ho
      exact ref09_without.L1_of (br_false (decide_eq_false (by omega)) (ref09_without.L1_X0 (kk h a2 c2 H)))
    | succ k ih =>
      intro i h a2 c2 out hi ho H
      have hin : i < l.length := by omega
      have hol : out.length ≤ i := by
        rw [ho]
        have := (mdel_sub (l.take i) nm).length_le
        rw [List.length_take] at this; omega
      refine ref09_without.L1_of (br_true (decide_eq_true (by omega)) ?_)
      have htk : l.take (i + 1) = l.take i ++ [l[i]] := List.take_succ_eq_append_getElem hin
      refine nd_idx (g _ H.tl) hn (by omega) fun t ht => ⟨_, nd_s ht, (br_iff _ _ _).2 ⟨fun e => ?_, fun e => ?_⟩⟩
      · have e : ¬ l[i].1 = nm := by simpa using e
        refine nd_idx (g _ H.tl) hn (by omega) fun t2 ht2 => ⟨_, _, ht2, ?_⟩
        refine nd_app (w := l[i]) (by omega) H fun h3 a3 c3 H3 => ⟨_, _, _, rfl, ref09_without.J1_of ?_⟩
        rw [inc (by omega)]
        refine ih (i + 1) (by omega) ?_ H3
        rw [htk, ho]; unfold mdel; rw [List.filter_append]; simp [e]
      · have e : l[i].1 = nm := by simpa using e
        refine ref09_without.J1_of ?_
        rw [inc (by omega)]
        refine ih (i + 1) (by omega) ?_ H
        rw [htk, ho]; unfold mdel; rw [List.filter_append]; simp [e]
  exact go n 0 (out := []) (by omega) (by simp [mdel]) (H.own_nil _ _)
theorem ins_eq (l : List (Nm × Nat)) (x : Nm × Nat) (k : Nat) (hk : k ≤ l.length) (h1 : ∀ j (hj : j < l.length), j < k → strLt l[j].1 x.1 = true) (h2 : ∀ hj : k < l.length, strLt l[k].1 x.1 = false) : ins l x = l.take k ++ x :: l.drop k := by
  induction l generalizing k with
  | nil => simp at hk; subst hk; rfl
  | cons y l ih =>
    unfold ins
    cases k with
    | zero =>
      have := h2 (by simp)
      rw [if_neg (by simpa using this)]; rfl
    | succ k =>
      have := h1 0 (by simp) (by omega)
      rw [if_pos (by simpa using this), ih k (by simpa using hk) (fun j hj hjk => h1 (j + 1) (by simpa using hj) (by omega)) (fun hj => h2 (by simpa using hj))]
      rfl
theorem with_hs {a : OA} {n c : Nat} {l : List (Nm × Nat)} {x : Nm × Nat} (g : Gv L a (l.flatMap ndV)) (hn : l.length = n) (hb : n < 2 ^ 40) (hnc : n ≤ c) (hn0 : a = none → c = 0) (H : Hs h L)
    (kk : ∀ h' a' c', Hs h' (own a' (ins l x).length c' T_haversackref09_Named 2 ((ins l x).flatMap ndV) :: L) → Q (.slice a' (ins l x).length c') h') : SpecH PP F_ref09_with [.slice a n c, .agg #[.string x.1, .int .i64 (x.2 : Nat)]] h Q := by
  refine ref09_with.door ?_
  have H1 := H.new (t := T_haversackref09_Named) (cs := #[.string x.1, .int .i64 (x.2 : Nat)]) (xs := ndV x)
  dsimp only
  generalize Array.size h = b at H1 ⊢
  generalize Array.push h _ = h1 at H1 ⊢
  have fin : ∀ (k : Nat), k ≤ n → ins l x = l.take k ++ x :: l.drop k → ref09_with.K1 Q (.exit 0) (ref09_with.X0 a n c ⟨b, 0, none⟩ (k : Nat)) h1 := by
    intro k hk e
    refine ref09_with.L1_X0 ?_
    refine cutS E_sl_haversackref09_Named (i := 0) (j := k) g (by rw [flat_len ndV_len, hn]) hnc hn0 (Nat.zero_le _) hk rfl rfl fun a2 c2 g2 h2n h2c h20 => ⟨_, _, _, rfl, ?_⟩
    rw [flat_cut ndV_len, List.drop_zero, Nat.sub_zero] at g2
    rw [Nat.sub_zero] at h2n ⊢
    have hlt : (l.take k).length = k := by rw [List.length_take]; omega
    refine (H1.own_nil T_haversackref09_Named 2).app_sl E_sl_haversackref09_Named (m := k) (ys := (l.take k).flatMap ndV) (g2 _ H1.tl) (by rw [flat_len ndV_len, hlt]) h2n (ndVs_one _) (fun h3 a3 c3 H3 => ⟨_, _, _, rfl, ?_⟩) (by omega) (by omega)
    rw [Nat.zero_add, List.nil_append] at H3
    rw [Nat.zero_add]
    refine ⟨_, _, H3.m1.rdc0, ?_⟩
    replace H3 : Hs h3 (own a3 (l.take k).length c3 T_haversackref09_Named 2 ((l.take k).flatMap ndV) :: pt b T_haversackref09_Named (ndV x) :: L) := by rw [hlt]; exact H3
    have e0 : (Value.slice a3 k c3) = .slice a3 (l.take k).length c3 := by rw [hlt]
    dsimp only
    rw [e0]
    refine nd_app (w := x) (by omega) H3 fun h4 a4 c4 H4 => ⟨_, _, _, rfl, ?_⟩
    refine cutS E_sl_haversackref09_Named (i := k) (j := n) g (by rw [flat_len ndV_len, hn]) hnc hn0 hk (Nat.le_refl _) rfl rfl fun a5 c5 g5 h5n h5c h50 => ⟨_, _, _, rfl, ?_⟩
    rw [flat_cut ndV_len] at g5
    have hld : ((l.drop k).take (n - k)) = l.drop k := List.take_of_length_le (by rw [List.length_drop]; omega)
    rw [hld] at g5
    have hlx : (l.take k ++ [x]).length = k + 1 := by rw [List.length_append, hlt]; rfl
    refine H4.app_sl E_sl_haversackref09_Named (m := n - k) (ys := (l.drop k).flatMap ndV) (g5 _ H4.tl.tl) (by rw [flat_len ndV_len, List.length_drop, hn]) h5n (ndVs_one _) (fun h6 a6 c6 H6 => ⟨_, _, _, rfl, ?_⟩) (by omega) (by omega)
    have e1 : (l.take k ++ [x]).flatMap ndV ++ (l.drop k).flatMap ndV = (ins l x).flatMap ndV := by rw [e]; simp
    have e2 : (l.take k ++ [x]).length + (n - k) = (ins l x).length := by rw [e]; simp; omega
    rw [e1, e2] at H6
    rw [e2]
    exact kk h6 a6 c6 H6.m1.tl
  have go : ∀ (r k : Nat), k + r = n → (∀ j (hj : j < l.length), j < k → strLt l[j].1 x.1 = true) → ref09_with.L1 a n c ⟨b, 0, none⟩ (k : Nat) (ref09_with.K1 Q) h1 := by
    intro r
    induction r with
    | zero =>
      intro k hk hlt
      exact ref09_with.L1_of (br_false (decide_eq_false (by omega)) (fin k (by omega) (ins_eq l x k (by omega) hlt (fun hj => by omega))))
    | succ r ih =>
      intro k hk hlt
      have hkl : k < l.length := by omega
      refine ref09_with.L1_of (br_true (decide_eq_true (by omega)) ?_)
      refine nd_idx (g _ H1.tl) hn (by omega) fun t ht => ⟨_, nd_s ht, _, H1.cell (off := 0) rfl, (br_iff _ _ _).2 ⟨fun e => ?_, fun e => ?_⟩⟩
      · rw [inc (by omega)]
        refine ih (k + 1) (by omega) fun j hj hjk => ?_
        rcases Nat.lt_or_ge j k with q | q
        · exact hlt j hj q
        · have : j = k := by omega
          subst this; exact e
      · exact fin k (by omega) (ins_eq l x k (by omega) hlt fun _ => e)
  exact go n 0 (by omega) (fun j hj h0 => by omega)
theorem mdel_len (l : List (Nm × Nat)) (nm : Nm) : (mdel l nm).length ≤ l.length := (mdel_sub l nm).length_le
/-- A change's kind. -/
def kd (c : Chg) : Int := if c.to = e0 then 3 else if c.fr = e0 then 1 else 2
def rcV (c : Chg) : List Value := [.int .i64 (kd c), .string c.fr, .string c.to, .int .i64 (c.f : Nat)]
theorem rcV_len (c : Chg) : (rcV c).length = 4 := rfl
theorem rcV_one (c : Chg) : ∀ x ∈ rcV c, oneC x = true := by
  intro x hx; simp [rcV] at hx; rcases hx with rfl | rfl | rfl | rfl <;> rfl
theorem apply_hs {a : OA} {n c : Nat} {l : List (Nm × Nat)} {cg : Chg} (ho : cg.fr ≠ e0 ∨ cg.to ≠ e0) (g : Gv L a (l.flatMap ndV)) (hn : l.length = n) (hb : n < 2 ^ 40) (H : Hs h L)
    (kk : ∀ h' a' c', Hs h' (own a' (ap l cg).length c' T_haversackref09_Named 2 ((ap l cg).flatMap ndV) :: L) → Q (.slice a' (ap l cg).length c') h') :
    SpecH PP F_ref09_apply [.slice a n c, .agg #[.int .i64 (kd cg), .string cg.fr, .string cg.to, .int .i64 (cg.f : Nat)]] h Q := by
  refine ref09_apply.door ?_
  have H1 := H.new (t := T_haversackref09_Change) (cs := #[.int .i64 (kd cg), .string cg.fr, .string cg.to, .int .i64 (cg.f : Nat)]) (xs := rcV cg)
  dsimp only
  generalize Array.size h = b at H1 ⊢
  generalize Array.push h _ = h1 at H1 ⊢
  have g1 : Gv (pt b T_haversackref09_Change (rcV cg) :: L) a (l.flatMap ndV) := g.cons
  have hnone : ∀ {a : OA} {n c : Nat} {xs : List Value} {M : List Assn} {h : Heap}, Hs h (own a n c T_haversackref09_Named 2 xs :: M) → a = none → c = 0 := fun H q => by subst q; exact H.own_none
  refine ⟨_, H1.cell (off := 0) rfl, ?_⟩
  by_cases ht : cg.to = e0
  · have hf : cg.fr ≠ e0 := ho.resolve_right fun q => q ht
    have ek : kd cg = 3 := by unfold kd; rw [if_pos ht]
    have ea : ap l cg = mdel l cg.fr := by unfold ap; dsimp only; rw [if_pos ht, if_neg hf]
    rw [ek]
    refine br_false rfl (br_false rfl ⟨_, H1.cell (off := 1) rfl, ?_⟩)
    rw [ea] at kk
    exact without_hs g1 hn hb H1 fun h2 a2 c2 H2 => ⟨_, _, _, rfl, kk h2 a2 c2 (H2.m1.tl)⟩
  · by_cases hf : cg.fr = e0
    · have ek : kd cg = 1 := by unfold kd; rw [if_neg ht, if_pos hf]
      have ea : ap l cg = ins (mdel l cg.to) (cg.to, cg.f) := by unfold ap; dsimp only; rw [if_neg ht, if_pos hf]
      rw [ek]
      rw [ea] at kk
      have hl1 := mdel_len l cg.to
      refine br_true rfl ⟨_, H1.cell (off := 2) rfl, ?_⟩
      repeat' first
        | exact trivial
        | refine And.intro ?_ ?_
        | refine ⟨_, H1.cell (off := 2) rfl, ?_⟩
        | refine ⟨_, H1.cell (off := 3) rfl, ?_⟩
        | refine without_hs g1 hn hb H1 fun h2 a2 c2 H2 => ⟨_, _, _, rfl, ?_⟩
        | refine ⟨_, H2.m1.cell (off := 2) rfl, ?_⟩
        | refine ⟨_, H2.m1.cell (off := 3) rfl, ?_⟩
        | exact with_hs (x := (cg.to, cg.f)) Gv.own rfl (by omega) H2.own_le (hnone H2) H2 fun h3 a3 c3 H3 => ⟨_, _, _, rfl, kk h3 a3 c3 (H3.sel 3 [0])⟩
    · have ek : kd cg = 2 := by unfold kd; rw [if_neg ht, if_neg hf]
      have ea : ap l cg = ins (mdel (mdel l cg.fr) cg.to) (cg.to, cg.f) := by unfold ap; dsimp only; rw [if_neg ht, if_neg hf]
      rw [ek]
      rw [ea] at kk
      have hl1 := mdel_len l cg.fr
      have hl2 := mdel_len (mdel l cg.fr) cg.to
      refine br_false rfl (br_true rfl ⟨_, H1.cell (off := 1) rfl, ?_⟩)
      repeat' first
        | exact trivial
        | refine And.intro ?_ ?_
        | refine ⟨_, H1.cell (off := 2) rfl, ?_⟩
        | refine ⟨_, H1.cell (off := 3) rfl, ?_⟩
        | refine without_hs g1 hn hb H1 fun h2 a2 c2 H2 => ⟨_, _, _, rfl, ?_⟩
        | refine ⟨_, H2.m1.cell (off := 2) rfl, ?_⟩
        | refine ⟨_, H2.m1.cell (off := 3) rfl, ?_⟩
        | refine without_hs (l := mdel l cg.fr) Gv.own rfl (by omega) H2 fun h3 a3 c3 H3 => ⟨_, _, _, rfl, ?_⟩
        | refine ⟨_, H3.m2.cell (off := 2) rfl, ?_⟩
        | refine ⟨_, H3.m2.cell (off := 3) rfl, ?_⟩
        | exact with_hs (x := (cg.to, cg.f)) Gv.own rfl (by omega) H3.own_le (hnone H3) H3 fun h4 a4 c4 H4 => ⟨_, _, _, rfl, kk h4 a4 c4 (H4.sel 4 [0])⟩
end Go.Proofs.Ytkogmkajhjmkeaa

set_option maxRecDepth 20000
set_option linter.unusedVariables false
set_option linter.unusedSimpArgs false
namespace Go.Proofs.Ytkogmkajhjmkeaa
open Go Go.HW
variable {h : Heap} {L : List Assn} {Q : Value → Heap → Prop} {s : Nat} {d : DS} {n : Nm}
/-- Blocks that are only read. -/
def frz (F : List (Nat × Obj)) : Assn := fun m => ∀ x ∈ F, m x.1 = some x.2
theorem frz_nil (H : Hs h L) : Hs h (frz [] :: L) := ⟨fun _ => none, fun b => h[b]?, nofun, H, fun _ => .inl rfl, (fun _ _ e => nomatch e), .refl _⟩
def Le (F F' : List (Nat × Obj)) : Prop := ∀ x ∈ F, x ∈ F'
theorem Gv.frz {F F' : List (Nat × Obj)} {a : OA} {xs : List Value} (hl : Le F F') (g : Gv [frz F] a xs) : Gv [Go.Proofs.Ytkogmkajhjmkeaa.frz F'] a xs := fun h H =>
  g h (H.mono fun m q x hx => q x (hl x hx))
/-- What was owned is only read from here on. -/
theorem freeze {a : OA} {m c : Nat} {e : TypeId} {sz : Nat} {xs : List Value} {F : List (Nat × Obj)} (H : Hs h (own a m c e sz xs :: frz F :: L)) : ∃ F', Le F F' ∧ Gv [frz F'] a xs ∧ Hs h (frz F' :: L) := by
  obtain ⟨m1, m2, k1, ⟨m3, m4, k3, k4, d34, s3, s4⟩, d12, s1, s2⟩ := H
  obtain ⟨h1, h2, h3 | ⟨b, off, cs, ha, hb, hc, hx⟩⟩ := k1
  · have hxs : xs = [] := by
      have : m = 0 := by omega
      rw [this, Nat.zero_mul] at h1; exact List.length_eq_zero_iff.1 h1
    refine ⟨F, fun x hx => hx, ?_, ⟨m3, m4, k3, k4, d34, s3.trans s2, s4.trans s2⟩⟩
    rw [hxs]; exact fun h _ => Rd.nil h _
  · refine ⟨(b, .cells cs e (0, 0)) :: F, fun x hx => List.mem_cons_of_mem _ hx, ?_, ?_⟩
    · intro h' H' i v hv
      have hi : i < xs.length := (List.getElem?_eq_some_iff.1 hv).1
      have hbk : h'[b]? = some (.cells cs e (0, 0)) := by
        obtain ⟨n1, n2, q, _, _, t1, _⟩ := H'
        exact t1 _ _ (q _ (List.mem_cons_self ..))
      refine ⟨_, ha, ?_⟩
      rw [add_mk]
      exact cell_of hbk (by rw [hx i hi]; exact hv)
    · refine ⟨Un m1 m3, m4, ?_, k4, ?_, ?_, s4.trans s2⟩
      · intro x hx
        rcases List.mem_cons.1 hx with rfl | hx
        · exact Un.left m1 m3 _ _ hb
        · exact Un.right (d12.sub s3) _ _ (k3 x hx)
      · exact Un.dj (d12.sub s4) d34
      · exact Un.sub s1 (s3.trans s2)
structure RF where
  a : OA
  c : Nat
  f : Fil
def rfV (r : RF) : List Value := [.slice r.a r.f.bs.length r.c, .int .i64 (r.f.safe : Nat)]
theorem rfV_len (r : RF) : (rfV r).length = 2 := rfl
theorem rfV_one (r : RF) : ∀ x ∈ rfV r, oneC x = true := by
  intro x hx; simp [rfV] at hx; rcases hx with rfl | rfl <;> rfl
structure RFok (F : List (Nat × Obj)) (r : RF) : Prop where
  g : Gv [frz F] r.a (nV r.f.bs)
  le : r.f.bs.length ≤ r.c
  n0 : r.a = none → r.c = 0
theorem RFok.mono {F F' : List (Nat × Obj)} {r : RF} (hl : Le F F') (k : RFok F r) : RFok F' r := ⟨Gv.frz hl k.g, k.le, k.n0⟩
def lf (d : DS) : Int := match d.left with | none => -1 | some n => (n : Int)
structure RA where
  fa : OA
  fc : Nat
  na : OA
  nc : Nat
  sa : OA
  sc : Nat
  ca : OA
  cc : Nat
def rkV (d : DS) (r : RA) : List Value := [.int .i64 (d.room : Nat), .slice r.fa d.files.length r.fc, .slice r.na d.now.length r.nc, .slice r.sa d.safe.length r.sc, .slice r.ca d.chg.length r.cc, .int .i64 (d.steps : Nat), .int .i64 (lf d)]
structure FsOk (d : DS) (F : List (Nat × Obj)) (fs : List RF) : Prop where
  m : fs.map (·.f) = d.files
  ok : ∀ r ∈ fs, RFok F r
def ownF (d : DS) (r : RA) (fs : List RF) : Assn := own r.fa d.files.length r.fc T_haversackref09_File 2 (fs.flatMap rfV)
def ownN (d : DS) (r : RA) : Assn := own r.na d.now.length r.nc T_haversackref09_Named 2 (d.now.flatMap ndV)
def ownS (d : DS) (r : RA) : Assn := own r.sa d.safe.length r.sc T_haversackref09_Named 2 (d.safe.flatMap ndV)
def ownC (d : DS) (r : RA) : Assn := own r.ca d.chg.length r.cc T_haversackref09_Change 4 (d.chg.flatMap rcV)
/-- The document's disk in memory. -/
def refA (s : Nat) (d : DS) (F : List (Nat × Obj)) : Assn := fun m => ∃ fs r, FsOk d F fs ∧ Sp [pt s T_haversackref09_Disk (rkV d r), ownF d r fs, ownN d r, ownS d r, ownC d r] m
theorem refA_open {F : List (Nat × Obj)} : Hs h (refA s d F :: L) ↔ ∃ fs r, FsOk d F fs ∧ Hs h (pt s T_haversackref09_Disk (rkV d r) :: ownF d r fs :: ownN d r :: ownS d r :: ownC d r :: L) := by
  unfold refA
  simp only [Hs.ex, Hs.and, Hs.app, List.cons_append, List.nil_append]
theorem FsOk.mono {F F' : List (Nat × Obj)} {fs : List RF} (hl : Le F F') (k : FsOk d F fs) : FsOk d F' fs := ⟨k.m, fun r hr => (k.ok r hr).mono hl⟩
theorem refA_mono {F F' : List (Nat × Obj)} (hl : Le F F') (H : Hs h (refA s d F :: L)) : Hs h (refA s d F' :: L) := by
  obtain ⟨fs, r, k, H1⟩ := refA_open.1 H
  exact refA_open.2 ⟨fs, r, k.mono hl, H1⟩
theorem FsOk.len {F : List (Nat × Obj)} {fs : List RF} (k : FsOk d F fs) : fs.length = d.files.length := by rw [← k.m, List.length_map]
theorem FsOk.at {F : List (Nat × Obj)} {fs : List RF} (k : FsOk d F fs) {i : Nat} (hi : i < d.files.length) : ∃ r, fs[i]? = some r ∧ r.f = d.fl i ∧ RFok F r := by
  have hi' : i < fs.length := by rw [k.len]; exact hi
  refine ⟨fs[i], List.getElem?_eq_getElem hi', ?_, k.ok _ (List.getElem_mem hi')⟩
  have h1 := fl_eq hi
  have h2 : (fs.map (·.f))[i]? = some fs[i].f := by rw [List.getElem?_map, List.getElem?_eq_getElem hi']; rfl
  rw [k.m, h1] at h2
  exact (Option.some.inj h2).symm
theorem RDown_hs {r : RA} (H : Hs h (pt s T_haversackref09_Disk (rkV d r) :: L)) (k : Q (.bool d.down) h) : SpecH PP F_ref09_Disk_Down [.pointer (some ⟨s, 0, none⟩)] h Q := by
  refine ref09_Disk_Down.door ⟨_, H.cell (off := 6) rfl, ?_⟩
  have : (lf d == 0) = d.down := by
    unfold lf DS.down
    cases d.left with
    | none => rfl
    | some n => cases n <;> simp; omega
  dsimp only
  rw [this]; exact k
theorem step_hs {r : RA} (hd : d.down = false) (hs : d.steps < 2 ^ 62) (hl : ∀ n, d.left = some n → n < 2 ^ 63) (H : Hs h (pt s T_haversackref09_Disk (rkV d r) :: L)) (kk : ∀ h', Hs h' (pt s T_haversackref09_Disk (rkV d.tick r) :: L) → Q (.int .i64 0) h') :
    SpecH PP F_ref09_Disk_step [.pointer (some ⟨s, 0, none⟩)] h Q := by
  refine ref09_Disk_step.door ⟨_, H.cell (off := 5) rfl, ?_⟩
  rw [inc (by omega)]
  refine H.sto (off := 5) (by simp [rkV]) (fun h1 H1 => ?_)
  refine ⟨_, H1.cell (off := 6) rfl, (br_iff _ _ _).2 ⟨fun e => ?_, fun e => ?_⟩⟩
  · have e := of_decide_eq_true e
    obtain ⟨n, hn⟩ : ∃ n, d.left = some n := by
      cases q : d.left with
      | none => unfold lf at e; rw [q] at e; simp at e
      | some n => exact ⟨n, rfl⟩
    have e0 : lf d = (n : Int) := by unfold lf; rw [hn]
    have hn1 := hl n hn
    rw [e0] at e
    refine ⟨_, H1.cell (off := 6) rfl, ?_⟩
    have e6 : IntKind.i64.wrap (lf d - 1) = ((n - 1 : Nat) : Int) := by rw [e0, wrap_i64_z (by omega) (by omega)]; omega
    rw [e6]
    refine H1.sto (off := 6) (by simp [rkV]) (fun h2 H2 => kk h2 ?_)
    simpa [rkV, DS.tick, hn, lf] using H2
  · have e := of_decide_eq_false e
    have hn : d.left = none := by
      cases q : d.left with
      | none => rfl
      | some n =>
        unfold lf at e; rw [q] at e
        have : n = 0 := by simp at e; omega
        subst this
        unfold DS.down at hd; simp [q] at hd
    refine kk h1 ?_
    simpa [rkV, DS.tick, hn, lf] using H1
theorem rfile_hs {r : RA} (hb : d.now.length < 2 ^ 40) (H : Hs h (pt s T_haversackref09_Disk (rkV d r) :: ownN d r :: L)) (k1 : ∀ i, d.find n = some i → Q (.int .i64 (i : Nat)) h) (k2 : d.find n = none → Q (.int .i64 (-1)) h) :
    SpecH PP F_ref09_Disk_file [.pointer (some ⟨s, 0, none⟩), .string n] h Q := by
  refine ref09_Disk_file.door ⟨_, _, _, H.cell (off := 2) rfl, ?_⟩
  refine find_hs09 (L := ownN d r :: _) Gv.own rfl hb H.m1 (fun i hi e e2 => ⟨_, rfl, ?_⟩) (fun e => ⟨_, rfl, br_true rfl (k2 e)⟩)
  refine br_false (decide_eq_false (by omega)) ⟨_, _, _, H.cell (off := 2) rfl, ?_⟩
  exact nd_idx (Hs.rd (n := d.now.length) H.m1) rfl hi fun t ht => ⟨_, nd_f ht, k1 _ e2⟩
theorem rsays_pure {c : Int} {m : Nat} (h1 : -9223372036854775808 ≤ c) (h2 : c < 9223372036854775808) (hn : m < 2 ^ 60) : PureAt PP F_ref09_says [.int .i64 c, .int .i64 (m : Nat)] (.int .i64 (says c m : Nat)) := by
  intro h
  refine ref09_says.door ?_
  have fin : ∀ x : Int, 0 ≤ x → (x % ((m : Int) + 1)).toNat = says c m → ref09_says.J1 x m (fun r h' => r = .int .i64 (says c m : Nat) ∧ h' = h) h := by
    intro x hx e
    refine ref09_says.J1_of ?_
    rw [inc (by omega)]
    refine br_true (by simp; omega) ⟨?_, rfl⟩
    rw [Int.tmod_eq_emod_of_nonneg hx, ← e, Int.toNat_of_nonneg (Int.emod_nonneg _ (by omega))]
    simp
  refine (br_iff _ _ _).2 ⟨fun e => ?_, fun e => ?_⟩
  · have e := of_decide_eq_true e
    dsimp only
    rw [wrap_i64_z (z := c + 1) (by omega) (by omega), wrap_i64_z (by omega) (by omega)]
    refine fin _ (by omega) ?_
    unfold says; rw [if_pos e]; congr 2; omega
  · have e := of_decide_eq_false e
    refine fin _ (by omega) ?_
    unfold says; rw [if_neg e]
theorem rchoice_hs {b : OA} {m c i : Nat} {cs : List Int} (r : Rd h b (zV cs)) (hm : cs.length = m) (k : Q (.int .i64 (cs.getD i 0)) h) : SpecH PP F_ref09_choice [.slice b m c, .int .i64 (i : Nat)] h Q := by
  refine ref09_choice.door ((br_iff _ _ _).2 ⟨fun e => ?_, fun e => ?_⟩)
  · have e := of_decide_eq_true e
    have hi : i < cs.length := by omega
    refine idx E_sl_int (v := .int .i64 cs[i]) r (by omega) (by omega) (by rw [Int.toNat_natCast]; unfold zV; rw [List.getElem?_map, List.getElem?_eq_getElem hi]; rfl) fun t ht => ⟨_, ht, ?_⟩
    rw [List.getD_eq_getElem?_getD, List.getElem?_eq_getElem hi] at k; exact k
  · have e := of_decide_eq_false e
    rw [List.getD_eq_getElem?_getD, List.getElem?_eq_none (by omega)] at k; exact k
end Go.Proofs.Ytkogmkajhjmkeaa

set_option maxRecDepth 20000
set_option linter.unusedVariables false
set_option linter.unusedSimpArgs false
namespace Go.Proofs.Ytkogmkajhjmkeaa
open Go Go.HW
variable {h : Heap} {L : List Assn} {Q : Value → Heap → Prop} {s : Nat} {d : DS} {n : Nm} {F : List (Nat × Obj)}
theorem Name_hs (hb : n.size < 2 ^ 60) (H : Q (.bool (good n)) h) : SpecH PP F_ref09_Name [.string n] h Q := by
  refine ref09_Name.door ?_
  have hsz : n = e0 ↔ n.size = 0 := by
    constructor
    · intro e; subst e; rfl
    · intro e
      refine slt_ext ?_
      have : n.data.toList.length = 0 := by rw [Array.length_toList]; exact e
      rw [List.length_eq_zero_iff.1 this]
  have go : n.size ≠ 0 → n.size ≤ 32 → ∀ (k i : Nat), i + k = n.size → ((sb n).take i).all gch = true → ref09_Name.L1 n i (ref09_Name.K2 Q) h := by
    intro h0 h32 k
    induction k with
    | zero =>
      intro i hi ha
      refine ref09_Name.L1_of (br_false (decide_eq_false (by omega)) (ref09_Name.L1_X0 ?_))
      rw [List.take_of_length_le (by rw [sb_len]; omega)] at ha
      have : true = good n := by unfold good; rw [ha, decide_eq_true (show n ≠ e0 from fun e => h0 (hsz.1 e)), decide_eq_true h32]; rfl
      rw [this]; exact H
    | succ k ih =>
      intro i hi ha
      have hin : i < n.size := by omega
      have hin' : i < (sb n).length := by rw [sb_len]; exact hin
      refine ref09_Name.L1_of (br_true (decide_eq_true (by omega)) ?_)
      refine hwp_sidx U_string hin ⟨_, rfl, ?_⟩
      generalize hx : (sb n)[i] = x
      have hj : ∀ t : Bool, t = !gch x → ref09_Name.J2 n i t (ref09_Name.K2 Q) h := by
        rintro t rfl
        refine ref09_Name.J2_of ((br_iff _ _ _).2 ⟨fun e => ?_, fun e => ?_⟩)
        · have e : gch x = false := by simpa using e
          have : false = good n := by
            have : (sb n).all gch = false := by
              rw [List.all_eq_false]
              exact ⟨x, by rw [← hx]; exact List.getElem_mem _, by rw [e]; simp⟩
            unfold good; rw [this]; rfl
          exact ref09_Name.L1_Xret (by rw [this]; exact H)
        · have e : gch x = true := by simpa using e
          rw [inc (by omega)]
          refine ih (i + 1) (by omega) ?_
          rw [List.take_succ_eq_append_getElem hin', List.all_append, ha, hx]
          simp [e]
      dsimp only
      refine (br_iff _ _ _).2 ⟨fun e1 => (br_iff _ _ _).2 ⟨fun e2 => (br_iff _ _ _).2 ⟨fun e3 => hj _ ?_, fun e3 => hj _ ?_⟩, fun e2 => (br_iff _ _ _).2 ⟨fun e3 => (br_iff _ _ _).2 ⟨fun e4 => hj _ ?_, fun e4 => hj _ ?_⟩, fun e3 => hj _ ?_⟩⟩,
        fun e1 => (br_iff _ _ _).2 ⟨fun e2 => (br_iff _ _ _).2 ⟨fun e3 => (br_iff _ _ _).2 ⟨fun e4 => hj _ ?_, fun e4 => hj _ ?_⟩, fun e3 => (br_iff _ _ _).2 ⟨fun e4 => (br_iff _ _ _).2 ⟨fun e5 => hj _ ?_, fun e5 => hj _ ?_⟩, fun e4 => hj _ ?_⟩⟩, fun e2 => hj _ ?_⟩⟩
      all_goals (rw [Bool.eq_iff_iff]; simp [gch] at *; omega)
  have bad : (n.size = 0 ∨ 32 < n.size) → ref09_Name.J1 n true Q h := by
    intro q
    have : false = good n := by
      unfold good
      rcases q with q | q
      · rw [decide_eq_false (show ¬ n ≠ e0 from fun e => e (hsz.2 q))]; simp
      · rw [decide_eq_false (show ¬ n.size ≤ 32 by omega)]; simp
    refine ref09_Name.J1_of (br_true rfl ?_)
    rw [this]; exact H
  dsimp only
  refine (br_iff _ _ _).2 ⟨fun e => ?_, fun e => ?_⟩
  · have e := of_decide_eq_true e
    exact bad (.inl (by omega))
  · have e := of_decide_eq_false e
    by_cases q : n.size > 32
    · rw [decide_eq_true (by omega)]; exact bad (.inr q)
    · rw [decide_eq_false (by omega)]
      exact ref09_Name.J1_of (br_false rfl (go (by omega) (by omega) n.size 0 (by omega) rfl))
theorem RNew_hs {room : Int} (h1 : 1 ≤ room) (H : Hs h (frz F :: L)) (kk : ∀ h' s, Hs h' (refA s (dnew room.toNat) F :: frz F :: L) → Q (.pointer (some ⟨s, 0, none⟩)) h') : SpecH PP F_ref09_New [.int .i64 room] h Q := by
  refine ref09_New.door ?_
  have H1 := (((H.own_nil T_haversackref09_Change 4).own_nil T_haversackref09_Named 2).own_nil T_haversackref09_Named 2).own_nil T_haversackref09_File 2
  have H2 := H1.new (t := T_haversackref09_Disk) (cs := #[(.int .i64 room), (.slice none 0 0), (.slice none 0 0), (.slice none 0 0), (.slice none 0 0), (.int .i64 0), (.int .i64 (-1))]) (xs := [(.int .i64 room), (.slice none 0 0), (.slice none 0 0), (.slice none 0 0), (.slice none 0 0), (.int .i64 0), (.int .i64 (-1))])
  dsimp only
  refine kk _ _ (refA_open.2 ⟨[], ⟨none, 0, none, 0, none, 0, none, 0⟩, ⟨rfl, nofun⟩, ?_⟩)
  have e : ((room.toNat : Nat) : Int) = room := by omega
  have e2 : rkV (dnew room.toNat) ⟨none, 0, none, 0, none, 0, none, 0⟩ = [(.int .i64 room), (.slice none 0 0), (.slice none 0 0), (.slice none 0 0), (.slice none 0 0), (.int .i64 0), (.int .i64 (-1))] := by simp [rkV, dnew, lf, e]
  rw [e2]
  exact H2
theorem rch_hs {r : RA} {fs : List RF} {cg : Chg} (hd : d.down = false) (hs : d.steps < 2 ^ 38) (hcl : d.chg.length ≤ d.steps) (hnl : d.now.length ≤ d.steps + 1) (hl : ∀ n, d.left = some n → n < 2 ^ 63) (ho : cg.fr ≠ e0 ∨ cg.to ≠ e0) (k : FsOk d F fs)
    (H : Hs h (pt s T_haversackref09_Disk (rkV d r) :: ownF d r fs :: ownN d r :: ownS d r :: ownC d r :: L)) (kk : ∀ h', Hs h' (refA s (d.change cg) F :: L) → Q (.int .i64 0) h') :
    SpecH PP F_ref09_Disk_change [.pointer (some ⟨s, 0, none⟩), .agg #[.int .i64 (kd cg), .string cg.fr, .string cg.to, .int .i64 (cg.f : Nat)]] h Q := by
  refine ref09_Disk_change.door ?_
  have H1 := H.new (t := T_haversackref09_Change) (cs := #[.int .i64 (kd cg), .string cg.fr, .string cg.to, .int .i64 (cg.f : Nat)]) (xs := rcV cg)
  dsimp only
  generalize Array.size h = b at H1 ⊢
  generalize Array.push h _ = h1 at H1 ⊢
  refine ⟨_, _, _, H1.m1.cell (off := 2) rfl, _, _, _, _, H1.rdc0, ?_⟩
  refine apply_hs (L := ownN d r :: _) ho Gv.own rfl (by omega) H1.m3 fun h2 a2 c2 H2 => ⟨_, _, _, rfl, ?_⟩
  refine (H2.m3).sto (off := 2) (by simp [rkV]) fun h3 H3 => ?_
  refine ⟨_, _, _, H3.cell (off := 4) rfl, _, _, _, _, H3.m3.rdc0, ?_⟩
  refine Hs.app_vals (xs := d.chg.flatMap rcV) (n := d.chg.length) (H3.m6) E_sl_haversackref09_Change (m := 1) (ys := rcV cg) rfl rfl (rcV_one cg) (fun h4 a' c' H4 => ⟨_, _, _, rfl, ?_⟩) (by omega) (by omega)
  refine (H4.m1).sto (off := 4) (by simp [rkV]) fun h5 H5 => ?_
  have e1 : d.chg.flatMap rcV ++ rcV cg = (d.chg ++ [cg]).flatMap rcV := by simp
  rw [e1] at H5
  have e2 : ((rkV d r).set 2 (.slice a2 (ap d.now cg).length c2)).set 4 (.slice a' (d.chg.length + 1) c') = rkV { d with now := ap d.now cg, chg := d.chg ++ [cg] } { r with na := a2, nc := c2, ca := a', cc := c' } := by simp [rkV, lf]
  rw [e2] at H5
  refine step_hs (d := { d with now := ap d.now cg, chg := d.chg ++ [cg] }) hd (show d.steps < 2 ^ 62 by omega) hl H5 fun h6 H6 => ⟨_, rfl, kk h6 (refA_open.2 ⟨fs, { r with na := a2, nc := c2, ca := a', cc := c' }, ⟨k.m, k.ok⟩, ?_⟩)⟩
  have H7 := H6.sel 7 [0, 5, 2, 6, 1]
  have e3 : (d.change cg).chg.length = d.chg.length + 1 := by simp [DS.change, DS.tick]
  unfold ownC
  rw [e3]
  exact H7
theorem fs_app {l : List RF} {a : OA} {c : Nat} {w : RF} {h : Heap} {K : VP} (hs : l.length ≤ 2 ^ 40) (H : Hs h (own a l.length c T_haversackref09_File 2 (l.flatMap rfV) :: L))
    (k : ∀ h' a' c', Hs h' (own a' (l ++ [w]).length c' T_haversackref09_File 2 ((l ++ [w]).flatMap rfV) :: L) → K (.slice a' (l ++ [w]).length c') h') :
    hwp PP (Builtin.append_ #[T_sl_haversackref09_File, T_sl_haversackref09_File] T_sl_haversackref09_File #[.slice a l.length c, .slice (some ⟨Array.size h, 0, none⟩) 1 1]) K (Array.push h (.cells #[.slice w.a w.f.bs.length w.c, .int .i64 (w.f.safe : Nat)] T_haversackref09_File (0, 0))) := by
  refine H.app_vals E_sl_haversackref09_File (m := 1) (ys := rfV w) rfl rfl (rfV_one w) (fun h' a' c' H' => ?_) (by omega) (by omega)
  have e : l.flatMap rfV ++ rfV w = (l ++ [w]).flatMap rfV := by simp
  rw [e] at H'
  have := k h' a' c'
  rw [List.length_append] at this
  exact this H'
theorem RCreate_hs (hd : DI d) (hb : d.steps < 2 ^ 38) (hn : n.size < 2 ^ 60) (H : Hs h (refA s d F :: L)) (kk : ∀ h', Hs h' (refA s (d.create n).1 F :: L) → Q (.int .i64 (d.create n).2) h') :
    SpecH PP F_ref09_Disk_Create [.pointer (some ⟨s, 0, none⟩), .string n] h Q := by
  obtain ⟨fs, r, k, H1⟩ := refA_open.1 H
  have hfl := hd.fl
  have hnl := hd.lenn
  unfold DS.create at kk
  refine ref09_Disk_Create.door (RDown_hs H1 ⟨_, rfl, ?_⟩)
  cases hdn : d.down with
  | true => rw [if_pos hdn] at kk; exact br_true rfl (kk h H)
  | false =>
    rw [if_neg (by rw [hdn]; simp)] at kk
    refine br_false rfl (Name_hs hn ⟨_, rfl, (br_iff _ _ _).2 ⟨fun e => ?_, fun e => ?_⟩⟩)
    · have e : good n = false := by simpa using e
      rw [if_pos e] at kk; exact kk _ H
    have e : good n = true := by simpa using e
    rw [if_neg (by rw [e]; simp)] at kk
    have hne : n ≠ e0 := by unfold good at e; simp at e; exact e.1.2
    refine ⟨_, _, _, H1.cell (off := 2) rfl, ?_⟩
    refine find_hs09 (L := ownN d r :: _) Gv.own rfl (by omega) H1.m2 (fun i hi e1 e2 => ⟨_, rfl, ?_⟩) (fun e1 => ⟨_, rfl, ?_⟩)
    · rw [if_pos (show (d.find n).isSome = true by unfold DS.find; rw [e2]; rfl)] at kk
      exact br_true (decide_eq_true (by omega)) (kk _ H)
    rw [if_neg (show ¬ (d.find n).isSome = true by unfold DS.find; rw [e1]; simp)] at kk
    refine br_false rfl ⟨_, _, _, H1.cell (off := 2) rfl, (br_iff _ _ _).2 ⟨fun e3 => ?_, fun e3 => ?_⟩⟩
    · have e3 := of_decide_eq_true e3
      rw [if_pos (by omega)] at kk; exact kk _ H
    have e3 := of_decide_eq_false e3
    rw [if_neg (by omega)] at kk
    refine ⟨_, _, _, H1.cell (off := 1) rfl, ?_⟩
    have hfs := k.len
    have H2 : Hs h (own r.fa fs.length r.fc T_haversackref09_File 2 (fs.flatMap rfV) :: pt s T_haversackref09_Disk (rkV d r) :: ownN d r :: ownS d r :: ownC d r :: L) := by rw [hfs]; exact H1.m1
    rw [← hfs]
    refine fs_app (w := ⟨none, 0, fil0⟩) (by omega) H2 fun h4 a4 c4 H4 => ⟨_, _, _, rfl, ?_⟩
    refine (H4.m1).sto (off := 1) (by simp [rkV]) fun h5 H5 => ?_
    refine ⟨_, _, _, H5.cell (off := 1) rfl, ?_⟩
    have el : (fs ++ [(⟨none, 0, fil0⟩ : RF)]).length = d.files.length + 1 := by simp [hfs]
    have ew : IntKind.i64.wrap (((fs ++ [(⟨none, 0, fil0⟩ : RF)]).length : Int) - 1) = ((d.files.length : Nat) : Int) := by rw [el, wrap_i64_z (by omega) (by omega)]; omega
    dsimp only
    rw [ew]
    have e2 : (rkV d r).set 1 (.slice a4 (fs ++ [(⟨none, 0, fil0⟩ : RF)]).length c4) = rkV { d with files := d.files ++ [fil0] } { r with fa := a4, fc := c4 } := by simp [rkV, lf, hfs]
    rw [e2, el] at H5
    have ek : (1 : Int) = kd ⟨e0, n, d.files.length⟩ := by unfold kd; rw [if_neg hne, if_pos rfl]
    rw [ek]
    have H6 : Hs h5 (pt s T_haversackref09_Disk (rkV { d with files := d.files ++ [fil0] } { r with fa := a4, fc := c4 }) :: ownF { d with files := d.files ++ [fil0] } { r with fa := a4, fc := c4 } (fs ++ [(⟨none, 0, fil0⟩ : RF)]) :: ownN { d with files := d.files ++ [fil0] } { r with fa := a4, fc := c4 } :: ownS { d with files := d.files ++ [fil0] } { r with fa := a4, fc := c4 } :: ownC { d with files := d.files ++ [fil0] } { r with fa := a4, fc := c4 } :: L) := by
      unfold ownF
      rw [show ({ d with files := d.files ++ [fil0] } : DS).files.length = d.files.length + 1 by simp]
      exact H5
    refine rch_hs (F := F) (d := { d with files := d.files ++ [fil0] }) (cg := ⟨e0, n, d.files.length⟩) hdn hb hd.cl (show d.now.length ≤ d.steps + 1 by omega) hd.lf (.inr hne) ⟨by simp [k.m], fun x hx => ?_⟩ H6 fun h7 H7 => ⟨_, rfl, kk h7 H7⟩
    rcases List.mem_append.1 hx with q | q
    · exact k.ok x q
    · rw [List.mem_singleton.1 q]
      exact ⟨fun h _ => Rd.nil h _, Nat.le_refl _, fun _ => rfl⟩
end Go.Proofs.Ytkogmkajhjmkeaa

set_option maxRecDepth 20000
set_option linter.unusedVariables false
set_option linter.unusedSimpArgs false
namespace Go.Proofs.Ytkogmkajhjmkeaa
open Go Go.HW
variable {h : Heap} {L : List Assn} {Q : Value → Heap → Prop} {s : Nat} {d : DS} {n : Nm} {F : List (Nat × Obj)}
/-- A file of the row is read. -/
theorem fs_idx {a : OA} {m c i : Nat} {fs : List RF} {r : RF} {R : Addr → Heap → Prop} (g : Rd h a (fs.flatMap rfV)) (hx : fs[i]? = some r) (hi : i < m)
    (K : ∀ t, rdCells h t 0 (rfV r) → R t h) : hwp PP (Instr.indexAt T_sl_haversackref09_File (.slice a m c) (.int .i64 (i : Nat))) (fun u h1 => ∃ t, u = .pointer (some t) ∧ R t h1) h :=
  idxf E_sl_haversackref09_File (φ := rfV) (l := fs) (x := r) g rfV_len (by decide) (by omega) (by omega) (by rw [Int.toNat_natCast]; exact hx) K
theorem fs_s {t : Addr} {r : RF} (k : rdCells h t 0 (rfV r)) : cellH h t = some (.slice r.a r.f.bs.length r.c) := by
  have := k.1; rwa [show Addr.add t 0 = t from by cases t; rfl] at this
theorem RUsed_hs {r : RA} {fs : List RF} (hd : DI d) (hb : d.steps < 2 ^ 38) (k : FsOk d F fs) (H : Hs h (pt s T_haversackref09_Disk (rkV d r) :: ownF d r fs :: ownN d r :: L)) (kk : Q (.int .i64 (d.used : Nat)) h) :
    SpecH PP F_ref09_Disk_Used [.pointer (some ⟨s, 0, none⟩)] h Q := by
  refine ref09_Disk_Used.door ?_
  have hle := used_le hd hb
  have hnl := hd.lenn
  have hfl := hd.fl
  cases hdn : d.down with
  | true =>
    have eu : d.used = 0 := by unfold DS.used; rw [if_pos hdn]
    rw [eu] at kk
    refine ref09_Disk_Used.L1_of ⟨_, _, _, H.cell (off := 2) rfl, (br_iff _ _ _).2 ⟨fun e => ?_, fun e => ref09_Disk_Used.L1_X0 kk⟩⟩
    refine RDown_hs H ⟨_, rfl, ?_⟩
    rw [hdn]
    exact br_false rfl (ref09_Disk_Used.L1_X0 kk)
  | false =>
    have eu : d.used = sumL d d.now := by unfold DS.used; rw [if_neg (by rw [hdn]; simp)]
    rw [eu] at kk
    have go : ∀ (q i : Nat), i + q = d.now.length → ref09_Disk_Used.L1 (some ⟨s, 0, none⟩) (sumL d (d.now.take i) : Nat) (i : Nat) (ref09_Disk_Used.K1 Q) h := by
      intro q
      induction q with
      | zero =>
        intro i hi
        rw [List.take_of_length_le (by omega)]
        exact ref09_Disk_Used.L1_of ⟨_, _, _, H.cell (off := 2) rfl, br_false (decide_eq_false (by omega)) (ref09_Disk_Used.L1_X0 kk)⟩
      | succ q ih =>
        intro i hi
        have hin : i < d.now.length := by omega
        refine ref09_Disk_Used.L1_of ⟨_, _, _, H.cell (off := 2) rfl, br_true (decide_eq_true (by omega)) ?_⟩
        refine RDown_hs H ⟨_, rfl, ?_⟩
        rw [hdn]
        refine br_true rfl ⟨_, _, _, H.cell (off := 1) rfl, _, _, _, H.cell (off := 2) rfl, ?_⟩
        refine nd_idx (Hs.rd (n := d.now.length) H.m2) rfl hin fun t ht => ⟨_, nd_f ht, ?_⟩
        have hix := (hd.ixn _ (List.getElem_mem hin)).2
        obtain ⟨rf, hr1, hr2, hr3⟩ := k.at hix
        refine fs_idx (Hs.rd (n := d.files.length) H.m1) hr1 hix fun t2 ht2 => ⟨_, _, _, fs_s ht2, ?_⟩
        have htk : d.now.take (i + 1) = d.now.take i ++ [d.now[i]] := List.take_succ_eq_append_getElem hin
        have hs1 : sumL d (d.now.take (i + 1)) = sumL d (d.now.take i) + (d.fl d.now[i].2).bs.length := by
          unfold sumL; rw [htk, List.map_append, List.sum_append]; simp
        have hs2 : sumL d (d.now.take (i + 1)) ≤ sumL d d.now := by
          unfold sumL
          conv => rhs; rw [← List.take_append_drop (i + 1) d.now, List.map_append, List.sum_append]
          omega
        have ew : IntKind.i64.wrap ((sumL d (d.now.take i) : Int) + (rf.f.bs.length : Int)) = ((sumL d (d.now.take (i + 1)) : Nat) : Int) := by
          rw [hr2, hs1, wrap_i64_z (by omega) (by omega)]; omega
        dsimp only
        rw [ew, inc (by omega)]
        exact ih (i + 1) (by omega)
    exact go d.now.length 0 (by omega)
theorem RUsed2_hs (hd : DI d) (hb : d.steps < 2 ^ 38) (H : Hs h (refA s d F :: L)) (kk : Q (.int .i64 (d.used : Nat)) h) : SpecH PP F_ref09_Disk_Used [.pointer (some ⟨s, 0, none⟩)] h Q := by
  obtain ⟨fs, r, k, H1⟩ := refA_open.1 H
  exact RUsed_hs hd hb k H1 kk
theorem RNames_hs (hd : DI d) (hb : d.steps < 2 ^ 38) (H : Hs h (refA s d F :: L)) (kk : ∀ h' a c, Hs h' (own a d.names.length c T_string 1 (d.names.map Value.string) :: refA s d F :: L) → Q (.slice a d.names.length c) h') :
    SpecH PP F_ref09_Disk_Names [.pointer (some ⟨s, 0, none⟩)] h Q := by
  obtain ⟨fs, r, k, H1⟩ := refA_open.1 H
  have hnl := hd.lenn
  have hfl := hd.fl
  have up : ∀ {h : Heap} {a : OA} {c : Nat} {l : List Nm}, Hs h (own a l.length c T_string 1 (l.map Value.string) :: pt s T_haversackref09_Disk (rkV d r) :: ownF d r fs :: ownN d r :: ownS d r :: ownC d r :: L) → Hs h (own a l.length c T_string 1 (l.map Value.string) :: refA s d F :: L) := fun H =>
    Hs.m1 (refA_open.2 ⟨fs, r, k, H.sel 6 [1, 2, 3, 4, 5, 0]⟩)
  refine ref09_Disk_Names.door ?_
  cases hdn : d.down with
  | true =>
    have en : d.names = [] := by unfold DS.names; rw [if_pos hdn]
    rw [en] at kk
    have kk := kk h none 0 (H.own_nil _ _)
    refine ref09_Disk_Names.L1_of ⟨_, _, _, H1.cell (off := 2) rfl, (br_iff _ _ _).2 ⟨fun e => ?_, fun e => ref09_Disk_Names.L1_X0 kk⟩⟩
    refine RDown_hs H1 ⟨_, rfl, ?_⟩
    rw [hdn]
    exact br_false rfl (ref09_Disk_Names.L1_X0 kk)
  | false =>
    have en : d.names = d.now.map (·.1) := by unfold DS.names; rw [if_neg (by rw [hdn]; simp)]
    rw [en] at kk
    have go : ∀ (q i : Nat) {h : Heap} {a : OA} {c : Nat} {l : List Nm}, i + q = d.now.length → l = (d.now.take i).map (·.1) → Hs h (own a l.length c T_string 1 (l.map Value.string) :: pt s T_haversackref09_Disk (rkV d r) :: ownF d r fs :: ownN d r :: ownS d r :: ownC d r :: L) →
        ref09_Disk_Names.L1 (some ⟨s, 0, none⟩) a l.length c (i : Nat) (ref09_Disk_Names.K1 Q) h := by
      intro q
      induction q with
      | zero =>
        intro i h a c l hi hl H
        rw [List.take_of_length_le (by omega)] at hl
        subst hl
        exact ref09_Disk_Names.L1_of ⟨_, _, _, H.m1.cell (off := 2) rfl, br_false (decide_eq_false (by omega)) (ref09_Disk_Names.L1_X0 (kk h a c (up H)))⟩
      | succ q ih =>
        intro i h a c l hi hl H
        have hin : i < d.now.length := by omega
        have hll : l.length = i := by rw [hl, List.length_map, List.length_take]; omega
        refine ref09_Disk_Names.L1_of ⟨_, _, _, H.m1.cell (off := 2) rfl, br_true (decide_eq_true (by omega)) ?_⟩
        refine RDown_hs H.m1 ⟨_, rfl, ?_⟩
        rw [hdn]
        refine br_true rfl ⟨_, _, _, H.m1.cell (off := 2) rfl, ?_⟩
        refine nd_idx (Hs.rd (n := d.now.length) H.m3) rfl hin fun t ht => ⟨_, nd_s ht, ?_⟩
        refine str_app (w := d.now[i].1) (by omega) H fun h5 a5 c5 H5 => ⟨_, _, _, rfl, ?_⟩
        dsimp only
        rw [inc (by omega)]
        refine ih (i + 1) (by omega) ?_ H5
        have htk : d.now.take (i + 1) = d.now.take i ++ [d.now[i]] := List.take_succ_eq_append_getElem hin
        rw [htk, List.map_append, hl]; rfl
    exact go d.now.length 0 (l := []) (by omega) rfl (H1.own_nil _ _)
theorem RStop_hs {m : Int} (hs : m < 2 ^ 63) (H : Hs h (refA s d F :: L)) (kk : ∀ h', Hs h' (refA s (d.stop m).1 F :: L) → Q (.int .i64 (d.stop m).2) h') : SpecH PP F_ref09_Disk_Stop [.pointer (some ⟨s, 0, none⟩), .int .i64 m] h Q := by
  obtain ⟨fs, r, k, H1⟩ := refA_open.1 H
  unfold DS.stop at kk
  refine ref09_Disk_Stop.door (RDown_hs H1 ⟨_, rfl, ?_⟩)
  cases hdn : d.down with
  | true => rw [if_pos hdn] at kk; exact br_true rfl (kk h H)
  | false =>
    rw [if_neg (by rw [hdn]; simp)] at kk
    refine br_false rfl ((br_iff _ _ _).2 ⟨fun e => ?_, fun e => ?_⟩)
    · have e := of_decide_eq_true e
      rw [if_pos e] at kk; exact kk h H
    · have e := of_decide_eq_false e
      rw [if_neg e] at kk
      refine H1.sto (off := 6) (by simp [rkV]) fun h2 H2 => ?_
      refine kk h2 (refA_open.2 ⟨fs, r, ⟨k.m, k.ok⟩, ?_⟩)
      have e2 : (rkV d r).set 6 (.int .i64 m) = rkV { d with left := some m.toNat } r := by
        simp [rkV, lf]; omega
      rw [e2] at H2; exact H2
theorem RRename_hs {m : Nm} (hd : DI d) (hb : d.steps < 2 ^ 38) (hm : m.size < 2 ^ 60) (H : Hs h (refA s d F :: L)) (kk : ∀ h', Hs h' (refA s (d.rename n m).1 F :: L) → Q (.int .i64 (d.rename n m).2) h') :
    SpecH PP F_ref09_Disk_Rename [.pointer (some ⟨s, 0, none⟩), .string n, .string m] h Q := by
  obtain ⟨fs, r, k, H1⟩ := refA_open.1 H
  have hnl := hd.lenn
  have hfl := hd.fl
  unfold DS.rename at kk
  refine ref09_Disk_Rename.door (RDown_hs H1 ⟨_, rfl, ?_⟩)
  cases hdn : d.down with
  | true => rw [if_pos hdn] at kk; exact br_true rfl (kk h H)
  | false =>
    rw [if_neg (by rw [hdn]; simp)] at kk
    refine br_false rfl (rfile_hs (L := ownF d r fs :: _) (by omega) (H1.sel 5 [0, 2, 1, 3, 4]) (fun i e => ⟨_, rfl, ?_⟩) (fun e => ⟨_, rfl, ?_⟩))
    · rw [e] at kk
      refine br_false (decide_eq_false (by omega)) (Name_hs hm ⟨_, rfl, (br_iff _ _ _).2 ⟨fun q => ?_, fun q => ?_⟩⟩)
      · have q : good m = false := by simpa using q
        simp only [q, if_true] at kk
        exact kk h H
      have q : good m = true := by simpa using q
      simp only [q, Bool.true_eq_false, if_false] at kk
      have hne : m ≠ e0 := by unfold good at q; simp at q; exact q.1.2
      have hne2 := hd.find_ne e
      have ek : (2 : Int) = kd ⟨n, m, i⟩ := by unfold kd; rw [if_neg hne, if_neg hne2]
      rw [ek]
      exact rch_hs (F := F) (cg := ⟨n, m, i⟩) hdn hb hd.cl (by omega) hd.lf (.inr hne) k H1 fun h7 H7 => ⟨_, rfl, kk h7 H7⟩
    · rw [e] at kk; exact br_true rfl (kk h H)
theorem RRemove_hs (hd : DI d) (hb : d.steps < 2 ^ 38) (H : Hs h (refA s d F :: L)) (kk : ∀ h', Hs h' (refA s (d.remove n).1 F :: L) → Q (.int .i64 (d.remove n).2) h') :
    SpecH PP F_ref09_Disk_Remove [.pointer (some ⟨s, 0, none⟩), .string n] h Q := by
  obtain ⟨fs, r, k, H1⟩ := refA_open.1 H
  have hnl := hd.lenn
  have hfl := hd.fl
  unfold DS.remove at kk
  refine ref09_Disk_Remove.door (RDown_hs H1 ⟨_, rfl, ?_⟩)
  cases hdn : d.down with
  | true => rw [if_pos hdn] at kk; exact br_true rfl (kk h H)
  | false =>
    rw [if_neg (by rw [hdn]; simp)] at kk
    refine br_false rfl (rfile_hs (L := ownF d r fs :: _) (by omega) (H1.sel 5 [0, 2, 1, 3, 4]) (fun i e => ⟨_, rfl, ?_⟩) (fun e => ⟨_, rfl, ?_⟩))
    · rw [e] at kk
      refine br_false (decide_eq_false (by omega)) ?_
      have ek : (3 : Int) = kd ⟨n, e0, 0⟩ := by unfold kd; rw [if_pos rfl]
      rw [ek]
      exact rch_hs (F := F) (cg := ⟨n, e0, 0⟩) hdn hb hd.cl (by omega) hd.lf (.inl (hd.find_ne e)) k H1 fun h7 H7 => ⟨_, rfl, kk h7 H7⟩
    · rw [e] at kk; exact br_true rfl (kk h H)
theorem mdel_e0 {l : List (Nm × Nat)} (h : ∀ x ∈ l, x.1 ≠ e0) : mdel l e0 = l := mdel_none (mget_none.2 fun q => by
  obtain ⟨x, hx, e⟩ := List.mem_map.1 q
  exact h x hx e)
theorem RSyncDir_hs (hd : DI d) (hb : d.steps < 2 ^ 38) (H : Hs h (refA s d F :: L)) (kk : ∀ h', Hs h' (refA s d.syncdir.1 F :: L) → Q (.int .i64 d.syncdir.2) h') :
    SpecH PP F_ref09_Disk_SyncDir [.pointer (some ⟨s, 0, none⟩)] h Q := by
  obtain ⟨fs, r, k, H1⟩ := refA_open.1 H
  have hnl := hd.lenn
  have hfl := hd.fl
  unfold DS.syncdir at kk
  refine ref09_Disk_SyncDir.door (RDown_hs H1 ⟨_, rfl, ?_⟩)
  cases hdn : d.down with
  | true => rw [if_pos hdn] at kk; exact br_true rfl (kk h H)
  | false =>
    rw [if_neg (by rw [hdn]; simp)] at kk
    refine br_false rfl ⟨_, _, _, H1.cell (off := 2) rfl, ?_⟩
    refine without_hs (L := ownN d r :: _) (l := d.now) Gv.own rfl (by omega) H1.m2 fun h2 a2 c2 H2 => ⟨_, _, _, rfl, ?_⟩
    rw [mdel_e0 fun x hx => (hd.ixn x hx).1] at H2 ⊢
    refine (H2.m2).sto (off := 3) (by simp [rkV]) fun h3 H3 => ?_
    refine H3.sto (off := 4) (by simp [rkV]) fun h4 H4 => ?_
    have e2 : ((rkV d r).set 3 (.slice a2 d.now.length c2)).set 4 (.slice none 0 0) = rkV { d with safe := d.now, chg := [] } { r with sa := a2, sc := c2, ca := none, cc := 0 } := by simp [rkV, lf]
    rw [e2] at H4
    refine step_hs (d := { d with safe := d.now, chg := [] }) hdn (show d.steps < 2 ^ 62 by omega) hd.lf H4 fun h5 H5 => ⟨_, rfl, kk h5 (refA_open.2 ⟨fs, { r with sa := a2, sc := c2, ca := none, cc := 0 }, ⟨k.m, k.ok⟩, ?_⟩)⟩
    exact (H5.own_nil T_haversackref09_Change 4).sel 7 [1, 4, 3, 2, 0]
theorem RRead_hs (hd : DI d) (H : Hs h (refA s d F :: frz F :: L)) (hb : d.steps < 2 ^ 38) (kk : ∀ a c, Gv [frz F] a (nV (d.read n).1) → (a = none → c = 0) → (d.read n).1.length ≤ c → Q (.tuple #[.slice a (d.read n).1.length c, .int .i64 (d.read n).2]) h) :
    SpecH PP F_ref09_Disk_Read [.pointer (some ⟨s, 0, none⟩), .string n] h Q := by
  obtain ⟨fs, r, k, H1⟩ := refA_open.1 H
  have hnl := hd.lenn
  have hfl := hd.fl
  have nil : Gv [frz F] none (nV []) := fun h _ => Rd.nil h _
  unfold DS.read at kk
  refine ref09_Disk_Read.door (RDown_hs H1 ⟨_, rfl, ?_⟩)
  cases hdn : d.down with
  | true => rw [if_pos hdn] at kk; exact br_true rfl (kk none 0 nil (fun _ => rfl) (Nat.le_refl _))
  | false =>
    rw [if_neg (by rw [hdn]; simp)] at kk
    refine br_false rfl (rfile_hs (L := ownF d r fs :: _) (by omega) (H1.sel 5 [0, 2, 1, 3, 4]) (fun i e => ⟨_, rfl, ?_⟩) (fun e => ⟨_, rfl, ?_⟩))
    · rw [e] at kk
      have hix := hd.find_lt e
      obtain ⟨rf, hr1, hr2, hr3⟩ := k.at hix
      refine br_false (decide_eq_false (by omega)) ⟨_, _, _, H1.cell (off := 1) rfl, ?_⟩
      refine fs_idx (Hs.rd (n := d.files.length) H1.m1) hr1 hix fun t2 ht2 => ⟨_, _, _, fs_s ht2, ?_⟩
      rw [hr2]
      have g := hr3.g
      have le := hr3.le
      rw [hr2] at g le
      exact kk rf.a rf.c g hr3.n0 le
    · rw [e] at kk; exact br_true rfl (kk none 0 nil (fun _ => rfl) (Nat.le_refl _))
end Go.Proofs.Ytkogmkajhjmkeaa

set_option maxRecDepth 20000
set_option linter.unusedVariables false
set_option linter.unusedSimpArgs false
namespace Go.Proofs.Ytkogmkajhjmkeaa
open Go Go.HW
variable {h : Heap} {L : List Assn} {Q : Value → Heap → Prop} {s : Nat} {d : DS} {n : Nm} {F : List (Nat × Obj)}
theorem rf_set {r r' : RF} {j : Nat} {v : Value} (hj : j < 2) (e : (rfV r).set j v = rfV r') : ∀ {fs : List RF} {i : Nat}, fs[i]? = some r → (fs.flatMap rfV).set (i * 2 + j) v = (fs.set i r').flatMap rfV := by
  intro fs
  induction fs with
  | nil => intro i h; simp at h
  | cons x fs ih =>
    intro i h
    cases i with
    | zero =>
      simp only [List.getElem?_cons_zero, Option.some.injEq] at h
      subst h
      rw [List.set_cons_zero, List.flatMap_cons, List.flatMap_cons, ← e, List.set_append_left _ _ (by rw [rfV_len]; omega)]
      simp
    | succ i =>
      simp only [List.getElem?_cons_succ] at h
      rw [List.set_cons_succ, List.flatMap_cons, List.flatMap_cons, List.set_append_right _ _ (by rw [rfV_len]; omega), rfV_len]
      rw [show (i + 1) * 2 + j - 2 = i * 2 + j by omega, ih h]
theorem FsOk.set {fs : List RF} (k : FsOk d F fs) {F' : List (Nat × Obj)} (hl : Le F F') {i : Nat} {r' : RF} (ok : RFok F' r') : FsOk { d with files := d.files.set i r'.f } F' (fs.set i r') :=
  ⟨by rw [List.map_set, k.m], fun r hr => by
    rcases List.mem_or_eq_of_mem_set hr with q | rfl
    · exact (k.ok r q).mono hl
    · exact ok⟩
theorem RSync_hs (hd : DI d) (hb : d.steps < 2 ^ 38) (H : Hs h (refA s d F :: L)) (kk : ∀ h', Hs h' (refA s (d.sync n).1 F :: L) → Q (.int .i64 (d.sync n).2) h') :
    SpecH PP F_ref09_Disk_Sync [.pointer (some ⟨s, 0, none⟩), .string n] h Q := by
  obtain ⟨fs, r, k, H1⟩ := refA_open.1 H
  have hnl := hd.lenn
  have hfl := hd.fl
  unfold DS.sync at kk
  refine ref09_Disk_Sync.door (RDown_hs H1 ⟨_, rfl, ?_⟩)
  cases hdn : d.down with
  | true => rw [if_pos hdn] at kk; exact br_true rfl (kk h H)
  | false =>
    rw [if_neg (by rw [hdn]; simp)] at kk
    refine br_false rfl (rfile_hs (L := ownF d r fs :: _) (by omega) (H1.sel 5 [0, 2, 1, 3, 4]) (fun i e => ⟨_, rfl, ?_⟩) (fun e => ⟨_, rfl, ?_⟩))
    · rw [e] at kk
      have hix := hd.find_lt e
      obtain ⟨rf, hr1, hr2, hr3⟩ := k.at hix
      refine br_false (decide_eq_false (by omega)) ⟨_, _, _, H1.cell (off := 1) rfl, _, _, _, H1.cell (off := 1) rfl, ?_⟩
      refine fs_idx (Hs.rd (n := d.files.length) H1.m1) hr1 hix fun t2 ht2 => ⟨_, _, _, fs_s ht2, ?_⟩
      refine Hs.idx_at (n := d.files.length) (xs := fs.flatMap rfV) (sz := 2) E_sl_haversackref09_File H1.m1 (by decide) (by omega) (by omega) fun b off ea => ?_
      rw [Int.toNat_natCast]
      show wr ⟨b, off + (i * 2 + 1), none⟩ _ _ h
      have hlt : i * 2 + 1 < (fs.flatMap rfV).length := by rw [flat_len rfV_len, k.len]; omega
      refine Hs.setAt (n := d.files.length) (sz := 2) (xs := fs.flatMap rfV) H1.m1 ea hlt rfl fun h2 H2 => ?_
      rw [rf_set (r' := ⟨rf.a, rf.c, ⟨rf.f.bs, rf.f.bs.length⟩⟩) (by decide) rfl hr1] at H2
      refine step_hs hdn (by omega) hd.lf H2.m1 fun h5 H5 => ⟨_, rfl, kk h5 (refA_open.2 ⟨fs.set i ⟨rf.a, rf.c, ⟨rf.f.bs, rf.f.bs.length⟩⟩, r, ?_, ?_⟩)⟩
      · have := k.set (F' := F) (fun x hx => hx) (i := i) (r' := ⟨rf.a, rf.c, ⟨rf.f.bs, rf.f.bs.length⟩⟩) ⟨hr3.g, hr3.le, hr3.n0⟩
        rw [hr2] at this ⊢
        exact ⟨this.m, this.ok⟩
      · have e2 : rkV d.tick r = rkV (DS.tick { d with files := d.files.set i ⟨(d.fl i).bs, (d.fl i).bs.length⟩ }) r := by simp [rkV, DS.tick, lf]
        rw [e2] at H5
        unfold ownF
        rw [show (DS.tick { d with files := d.files.set i ⟨(d.fl i).bs, (d.fl i).bs.length⟩ }).files.length = d.files.length by simp [DS.tick]]
        exact H5
    · rw [e] at kk; exact br_true rfl (kk h H)
theorem RAppend_hs {b : OA} {m bc : Nat} {bs : List Nat} (hd : DI d) (hb : d.steps < 2 ^ 38) (g : Gv L b (nV bs)) (hm : bs.length = m) (hm2 : m < 2 ^ 40) (hm0 : b = none → m = 0) (H : Hs h (refA s d F :: frz F :: L))
    (kk : ∀ h' F', Le F F' → Hs h' (refA s (d.append n bs).1 F' :: frz F' :: L) → Q (.int .i64 (d.append n bs).2) h') :
    SpecH PP F_ref09_Disk_Append [.pointer (some ⟨s, 0, none⟩), .string n, .slice b m bc] h Q := by
  obtain ⟨fs, r, k, H1⟩ := refA_open.1 H
  have hnl := hd.lenn
  have hfl := hd.fl
  have refl : Le F F := fun x hx => hx
  unfold DS.append at kk
  refine ref09_Disk_Append.door (RDown_hs H1 ⟨_, rfl, ?_⟩)
  cases hdn : d.down with
  | true => rw [if_pos hdn] at kk; exact br_true rfl (kk h F refl H)
  | false =>
    rw [if_neg (by rw [hdn]; simp)] at kk
    refine br_false rfl (rfile_hs (L := ownF d r fs :: _) (by omega) (H1.sel 5 [0, 2, 1, 3, 4]) (fun i e => ⟨_, rfl, ?_⟩) (fun e => ⟨_, rfl, ?_⟩))
    · rw [e] at kk
      have hu : d.used ≤ 2 ^ 61 := by unfold DS.used; rw [if_neg (by rw [hdn]; simp)]; exact used_le hd hb
      have hr := hd.room
      have ew : IntKind.i64.wrap ((d.room : Int) - ((d.used : Nat) : Int)) = (d.room : Int) - d.used := wrap_i64_z (by omega) (by omega)
      refine br_false (decide_eq_false (by omega)) ?_
      have fin : ref09_Disk_Append.J1 (some ⟨s, 0, none⟩) b m bc (i : Nat) (decide ((m : Int) > (d.room : Int) - d.used)) Q h := by
        refine ref09_Disk_Append.J1_of ((br_iff _ _ _).2 ⟨fun q => ?_, fun q => ?_⟩)
        · have q := of_decide_eq_true q
          simp only [if_pos (show (d.room : Int) - d.used < bs.length by rw [hm]; omega)] at kk
          exact kk h F refl H
        have q := of_decide_eq_false q
        simp only [if_neg (show ¬ (d.room : Int) - d.used < bs.length by rw [hm]; omega)] at kk
        have hix := hd.find_lt e
        obtain ⟨rf, hr1, hr2, hr3⟩ := k.at hix
        have hfo := (hd.fl_ok i).2
        rw [← hr2] at hfo kk
        refine ⟨_, _, _, H1.cell (off := 1) rfl, ?_⟩
        refine fs_idx (Hs.rd (n := d.files.length) H1.m1) hr1 hix fun t2 ht2 => ⟨_, _, _, fs_s ht2, ?_⟩
        have hn0 : rf.a = none → rf.f.bs.length = 0 := fun q => by have := hr3.n0 q; have := hr3.le; omega
        refine (H1.own_nil T_uint8 1).app_sl E_sl_uint8 (m := rf.f.bs.length) (ys := nV rf.f.bs) (hr3.g _ (Hs.one H1.m5)) (by rw [nV_len]; omega) hn0 (nV_one _) (fun h2 a2 c2 H2 => ⟨_, _, _, rfl, ?_⟩) (by omega) (by omega)
        rw [Nat.zero_add, List.nil_append] at H2
        rw [Nat.zero_add]
        have fin2 : ∀ {h3 : Heap} {a3 : OA} {c3 : Nat}, Hs h3 (own a3 (rf.f.bs ++ bs).length c3 T_uint8 1 (nV (rf.f.bs ++ bs)) :: pt s T_haversackref09_Disk (rkV d r) :: ownF d r fs :: ownN d r :: ownS d r :: ownC d r :: frz F :: L) →
            hwp PP (Instr.indexAt T_sl_haversackref09_File (.slice r.fa d.files.length r.fc) (.int .i64 (i : Nat))) (fun v_5 h7 => ∃ (t44_1 : Addr), v_5 = (.pointer (some t44_1)) ∧ wr t44_1 (.slice a3 (rf.f.bs ++ bs).length c3) (fun h8 => ref09_Disk_Append.J2 (some ⟨s, 0, none⟩) Q h8) h7) h3 := by
          intro h3 a3 c3 H3
          have h3le := H3.own_le
          have h3n : a3 = none → c3 = 0 := fun q => by subst q; exact H3.own_none
          refine Hs.idx_at (n := d.files.length) (xs := fs.flatMap rfV) (sz := 2) E_sl_haversackref09_File H3.m2 (by decide) (by omega) (by omega) fun b off ea => ?_
          rw [Int.toNat_natCast]
          show wr ⟨b, off + (i * 2 + 0), none⟩ _ _ h3
          have hlt : i * 2 + 0 < (fs.flatMap rfV).length := by rw [flat_len rfV_len, k.len]; omega
          refine Hs.setAt (n := d.files.length) (sz := 2) (xs := fs.flatMap rfV) H3.m2 ea hlt rfl fun h4 H4 => ?_
          rw [rf_set (r' := ⟨a3, c3, ⟨rf.f.bs ++ bs, rf.f.safe⟩⟩) (by decide) rfl hr1] at H4
          refine ref09_Disk_Append.J2_of (step_hs hdn (by omega) hd.lf H4.m2 fun h5 H5 => ⟨_, rfl, ?_⟩)
          -- 0 pt 1 ownF' 2 own 3 N 4 S 5 C 6 frz
          obtain ⟨F', hl', g', H6⟩ := freeze (H5.sel 7 [2, 6, 0, 1, 3, 4, 5])
          refine kk h5 F' hl' (refA_open.2 ⟨fs.set i ⟨a3, c3, ⟨rf.f.bs ++ bs, rf.f.safe⟩⟩, r, ?_, ?_⟩)
          · have := k.set hl' (i := i) (r' := ⟨a3, c3, ⟨rf.f.bs ++ bs, rf.f.safe⟩⟩) ⟨g', h3le, h3n⟩
            exact ⟨this.m, this.ok⟩
          · have e2 : rkV d.tick r = rkV (DS.tick { d with files := d.files.set i ⟨rf.f.bs ++ bs, rf.f.safe⟩ }) r := by simp [rkV, DS.tick, lf]
            rw [e2] at H6
            unfold ownF
            rw [show (DS.tick { d with files := d.files.set i ⟨rf.f.bs ++ bs, rf.f.safe⟩ }).files.length = d.files.length by simp [DS.tick]]
            exact H6.sel 6 [1, 2, 3, 4, 5, 0]
        have app : ∀ {K : VP}, (∀ h3 a3 c3, Hs h3 (own a3 (rf.f.bs ++ bs).length c3 T_uint8 1 (nV (rf.f.bs ++ bs)) :: pt s T_haversackref09_Disk (rkV d r) :: ownF d r fs :: ownN d r :: ownS d r :: ownC d r :: frz F :: L) → K (.slice a3 (rf.f.bs ++ bs).length c3) h3) →
            hwp PP (Builtin.append_ #[T_sl_uint8, T_sl_uint8] T_sl_uint8 #[(.slice a2 rf.f.bs.length c2), (.slice b m bc)]) K h2 := by
          intro K hK
          refine H2.app_sl E_sl_uint8 (m := m) (ys := nV bs) (g _ (H2.sel 7 [])) (by rw [nV_len]; omega) hm0 (nV_one _) (fun h3 a3 c3 H3 => ?_) (by omega) (by omega)
          have el : rf.f.bs.length + m = (rf.f.bs ++ bs).length := by rw [List.length_append, hm]
          rw [el, ← nV_app] at H3
          rw [el]
          exact hK h3 a3 c3 H3
        refine ⟨⟨_, _, _, H2.m1.cell (off := 1) rfl, app fun h3 a3 c3 H3 => ⟨_, _, _, rfl, fin2 H3⟩⟩, app fun h3 a3 c3 H3 => ⟨_, _, _, rfl, _, _, _, H3.m1.cell (off := 1) rfl, fin2 H3⟩, trivial⟩
      refine ⟨⟨_, H1.cell (off := 0) rfl, ?_⟩, ?_, trivial⟩
      · refine RUsed_hs hd hb k H1 ⟨_, rfl, ?_⟩
        dsimp only
        rw [ew]; exact fin
      · refine RUsed_hs hd hb k H1 ⟨_, rfl, _, H1.cell (off := 0) rfl, ?_⟩
        dsimp only
        rw [ew]; exact fin
    · rw [e] at kk; exact br_true rfl (kk h F refl H)
end Go.Proofs.Ytkogmkajhjmkeaa

set_option maxRecDepth 20000
set_option linter.unusedVariables false
set_option linter.unusedSimpArgs false
namespace Go.Proofs.Ytkogmkajhjmkeaa
open Go Go.HW
variable {h : Heap} {L : List Assn} {Q : Value → Heap → Prop} {s : Nat} {d : DS} {n : Nm} {F : List (Nat × Obj)}
theorem rc_app {l : List Chg} {a : OA} {c : Nat} {w : Chg} {h : Heap} {K : VP} (hs : l.length ≤ 2 ^ 40) (H : Hs h (own a l.length c T_haversackref09_Change 4 (l.flatMap rcV) :: L))
    (k : ∀ h' a' c', Hs h' (own a' (l ++ [w]).length c' T_haversackref09_Change 4 ((l ++ [w]).flatMap rcV) :: L) → K (.slice a' (l ++ [w]).length c') h') :
    hwp PP (Builtin.append_ #[T_sl_haversackref09_Change, T_sl_haversackref09_Change] T_sl_haversackref09_Change #[.slice a l.length c, .slice (some ⟨Array.size h, 0, none⟩) 1 1]) K (Array.push h (.cells #[.int .i64 (kd w), .string w.fr, .string w.to, .int .i64 (w.f : Nat)] T_haversackref09_Change (0, 0))) := by
  refine H.app_vals E_sl_haversackref09_Change (m := 1) (ys := rcV w) rfl rfl (rcV_one w) (fun h' a' c' H' => ?_) (by omega) (by omega)
  have e : l.flatMap rcV ++ rcV w = (l ++ [w]).flatMap rcV := by simp
  rw [e] at H'
  have := k h' a' c'
  rw [List.length_append] at this
  exact this H'
theorem rkV_one (d : DS) (r : RA) : ∀ x ∈ rkV d r, oneC x = true := by
  intro v hv; simp [rkV] at hv; rcases hv with rfl | rfl | rfl | rfl | rfl | rfl | rfl <;> rfl
theorem RClone_hs (hd : DI d) (hb : d.steps < 2 ^ 38) (H : Hs h (refA s d F :: L)) (kk : ∀ h' x, Hs h' (refA x d F :: refA s d F :: L) → Q (.pointer (some ⟨x, 0, none⟩)) h') :
    SpecH PP F_ref09_Disk_Clone [.pointer (some ⟨s, 0, none⟩)] h Q := by
  obtain ⟨fs, r, k, H1⟩ := refA_open.1 H
  have hnl := hd.lenn
  have hfl := hd.fl
  have hcl := hd.cl
  have hsl := hd.len 0
  simp only [List.take_zero] at hsl
  have hsl : d.safe.length ≤ d.files.length := hsl
  have hfs := k.len
  refine ref09_Disk_Clone.door ⟨_, _, _, _, _, _, _, _, _, _, _, _, _, _, _, H1.rdc0, ?_⟩
  have H2 := H1.new (t := T_haversackref09_Disk) (cs := #[(.int .i64 0), (.slice none 0 0), (.slice none 0 0), (.slice none 0 0), (.slice none 0 0), (.int .i64 0), (.int .i64 0)]) (xs := [(.int .i64 0), (.slice none 0 0), (.slice none 0 0), (.slice none 0 0), (.slice none 0 0), (.int .i64 0), (.int .i64 0)])
  dsimp only
  generalize Array.size h = x at H2 ⊢
  generalize Array.push h _ = h1 at H2 ⊢
  refine Hs.wrs (b := x) (vs := rkV d r) H2 (fun h2 H3 => ?_) rfl (rkV_one d r)
  refine H3.sto (off := 1) (by simp [rkV]) fun h3 H4 => ?_
  have e1 : (rkV d r).set 1 (.slice none 0 0) = rkV { d with files := [] } { r with fa := none, fc := 0 } := by simp [rkV, lf]
  rw [e1] at H4
  have last : ∀ {h : Heap} {fa na sa : OA} {fc nc sc : Nat}, ∀ (q j : Nat) {h : Heap} {ca : OA} {cc : Nat} {l : List Chg}, j + q = d.chg.length → l = d.chg.take j →
      Hs h (own ca l.length cc T_haversackref09_Change 4 (l.flatMap rcV) :: pt x T_haversackref09_Disk (rkV { d with chg := l } ⟨fa, fc, na, nc, sa, sc, ca, cc⟩) :: own fa fs.length fc T_haversackref09_File 2 (fs.flatMap rfV) :: own na d.now.length nc T_haversackref09_Named 2 (d.now.flatMap ndV) :: own sa d.safe.length sc T_haversackref09_Named 2 (d.safe.flatMap ndV) :: pt s T_haversackref09_Disk (rkV d r) :: ownF d r fs :: ownN d r :: ownS d r :: ownC d r :: L) →
      ref09_Disk_Clone.L2 (some ⟨s, 0, none⟩) ⟨x, 0, none⟩ (j : Nat) (ref09_Disk_Clone.K2 Q) h := by
    intro h0 fa na sa fc nc sc q
    induction q with
    | zero =>
      intro j h ca cc l hj hl H
      rw [List.take_of_length_le (by omega)] at hl
      subst hl
      refine ref09_Disk_Clone.L2_of ⟨_, _, _, H.m5.cell (off := 4) rfl, br_false (decide_eq_false (by omega)) (ref09_Disk_Clone.L2_X2 ?_)⟩
      -- 0 own 1 ptx 2 f 3 n 4 s 5 pts 6 F 7 N 8 S 9 C
      have Hx : Hs h (pt s T_haversackref09_Disk (rkV d r) :: ownF d r fs :: ownN d r :: ownS d r :: ownC d r :: pt x T_haversackref09_Disk (rkV d ⟨fa, fc, na, nc, sa, sc, ca, cc⟩) :: ownF d ⟨fa, fc, na, nc, sa, sc, ca, cc⟩ fs :: ownN d ⟨fa, fc, na, nc, sa, sc, ca, cc⟩ :: ownS d ⟨fa, fc, na, nc, sa, sc, ca, cc⟩ :: ownC d ⟨fa, fc, na, nc, sa, sc, ca, cc⟩ :: L) := by
        have := H.sel 10 [5, 6, 7, 8, 9, 1, 2, 3, 4, 0]
        unfold ownF at this ⊢
        rw [hfs] at this
        exact this
      have Hy := refA_open.2 ⟨fs, r, k, Hx⟩
      exact kk h x (refA_open.2 ⟨fs, ⟨fa, fc, na, nc, sa, sc, ca, cc⟩, k, Hy.sel 6 [1, 2, 3, 4, 5, 0]⟩)
    | succ q ih =>
      intro j h ca cc l hj hl H
      have hjn : j < d.chg.length := by omega
      have hll : l.length = j := by rw [hl, List.length_take]; omega
      refine ref09_Disk_Clone.L2_of ⟨_, _, _, H.m5.cell (off := 4) rfl, br_true (decide_eq_true (by omega)) ⟨_, _, _, H.m1.cell (off := 4) rfl, _, _, _, H.m5.cell (off := 4) rfl, ?_⟩⟩
      refine idxf E_sl_haversackref09_Change (φ := rcV) (l := d.chg) (x := d.chg[j]) (Hs.rd (n := d.chg.length) (H.sel 10 [9])) rcV_len (by decide) (by omega) (by omega) (by rw [Int.toNat_natCast, List.getElem?_eq_getElem hjn]) fun t ht => ⟨_, _, _, _, ht, ?_⟩
      refine rc_app (l := l) (w := d.chg[j]) (by omega) H fun h5 a5 c5 H5 => ⟨_, _, _, rfl, ?_⟩
      refine (H5.m1).sto (off := 4) (by simp [rkV]) fun h6 H6 => ?_
      dsimp only
      rw [inc (by omega)]
      have e2 : (rkV { d with chg := l } ⟨fa, fc, na, nc, sa, sc, ca, cc⟩).set 4 (.slice a5 (l ++ [d.chg[j]]).length c5) = rkV { d with chg := l ++ [d.chg[j]] } ⟨fa, fc, na, nc, sa, sc, a5, c5⟩ := by simp [rkV, lf]
      rw [e2] at H6
      refine ih (j + 1) (by omega) ?_ H6.m1
      rw [hl, List.take_succ_eq_append_getElem hjn]
  have go : ∀ (q j : Nat) {h : Heap} {fa : OA} {fc : Nat} {l : List RF}, j + q = fs.length → l = fs.take j →
      Hs h (own fa l.length fc T_haversackref09_File 2 (l.flatMap rfV) :: pt x T_haversackref09_Disk (rkV { d with files := l.map (·.f) } { r with fa := fa, fc := fc }) :: pt s T_haversackref09_Disk (rkV d r) :: ownF d r fs :: ownN d r :: ownS d r :: ownC d r :: L) →
      ref09_Disk_Clone.L1 (some ⟨s, 0, none⟩) ⟨x, 0, none⟩ (j : Nat) (ref09_Disk_Clone.K1 Q) h := by
    intro q
    induction q with
    | zero =>
      intro j h fa fc l hj hl H
      rw [List.take_of_length_le (by omega)] at hl
      subst hl
      refine ref09_Disk_Clone.L1_of ⟨_, _, _, H.m2.cell (off := 1) rfl, br_false (decide_eq_false (by omega)) (ref09_Disk_Clone.L1_X0 ⟨_, _, _, H.m2.cell (off := 2) rfl, ?_⟩)⟩
      rw [k.m] at H
      refine without_hs (L := ownN d r :: _) (l := d.now) Gv.own rfl (by omega) H.m4 fun h5 a5 c5 H5 => ⟨_, _, _, rfl, ?_⟩
      rw [mdel_e0 fun x hx => (hd.ixn x hx).1] at H5 ⊢
      -- 0 own 1 N 2 f 3 ptx 4 pts 5 F 6 S 7 C
      refine (H5.m3).sto (off := 2) (by simp [rkV]) fun h6 H6 => ?_
      refine ⟨_, _, _, H6.m4.cell (off := 3) rfl, ?_⟩
      refine without_hs (L := ownS d r :: _) (l := d.safe) Gv.own rfl (by omega) H6.m6 fun h7 a7 c7 H7 => ⟨_, _, _, rfl, ?_⟩
      rw [mdel_e0 fun x hx => (hd.ix x hx).1] at H7 ⊢
      -- 0 own' 1 S 2 ptx 3 own 4 N 5 f 6 pts 7 F 8 C
      refine (H7.m2).sto (off := 3) (by simp [rkV]) fun h8 H8 => ?_
      refine H8.sto (off := 4) (by simp [rkV]) fun h9 H9 => ?_
      have e2 : ((((rkV { d with files := d.files } { r with fa := fa, fc := fc }).set 2 (.slice a5 d.now.length c5)).set 3 (.slice a7 d.safe.length c7)).set 4 (.slice none 0 0)) = rkV { d with chg := [] } ⟨fa, fc, a5, c5, a7, c7, none, 0⟩ := by simp [rkV, lf]
      rw [e2] at H9
      -- 0 ptx 1 own' 2 S 3 own 4 N 5 f 6 pts 7 F 8 C ; with nil own in front
      exact last (h := h9) d.chg.length 0 (l := []) (by omega) rfl ((H9.own_nil T_haversackref09_Change 4).sel 10 [0, 1, 6, 4, 2, 7, 8, 5, 3, 9])
    | succ q ih =>
      intro j h fa fc l hj hl H
      have hjn : j < fs.length := by omega
      have hll : l.length = j := by rw [hl, List.length_take]; omega
      refine ref09_Disk_Clone.L1_of ⟨_, _, _, H.m2.cell (off := 1) rfl, br_true (decide_eq_true (by omega)) ⟨_, _, _, H.m1.cell (off := 1) rfl, _, _, _, H.m2.cell (off := 1) rfl, ?_⟩⟩
      refine fs_idx (r := fs[j]) (Hs.rd (n := d.files.length) H.m3) (List.getElem?_eq_getElem hjn) (by omega) fun t ht => ⟨_, _, _, _, ht, ?_⟩
      rw [List.length_map]
      refine fs_app (l := l) (w := fs[j]) (by omega) H fun h5 a5 c5 H5 => ⟨_, _, _, rfl, ?_⟩
      refine (H5.m1).sto (off := 1) (by simp [rkV]) fun h6 H6 => ?_
      dsimp only
      rw [inc (by omega)]
      have e2 : (rkV { d with files := l.map (·.f) } { r with fa := fa, fc := fc }).set 1 (.slice a5 (l ++ [fs[j]]).length c5) = rkV { d with files := (l ++ [fs[j]]).map (·.f) } { r with fa := a5, fc := c5 } := by simp [rkV, lf]
      rw [e2] at H6
      refine ih (j + 1) (by omega) ?_ H6.m1
      rw [hl, List.take_succ_eq_append_getElem hjn]
  exact go fs.length 0 (l := []) (by omega) rfl (H4.own_nil T_haversackref09_File 2)
end Go.Proofs.Ytkogmkajhjmkeaa

set_option maxRecDepth 20000
set_option linter.unusedVariables false
set_option linter.unusedSimpArgs false
namespace Go.Proofs.Ytkogmkajhjmkeaa
open Go Go.HW
variable {h : Heap} {L R : List Assn} {Q : Value → Heap → Prop} {s : Nat} {d : DS} {n : Nm} {F : List (Nat × Obj)}
/-- The bytes of a file that is cut: noughts laid up to k. -/
def nought (bb : List Nat) (sf k : Nat) : List Nat := bb.take sf ++ List.replicate (k - sf) 0 ++ bb.drop k
theorem nought_0 (bb : List Nat) (sf : Nat) : nought bb sf sf = bb := by unfold nought; simp
theorem nought_len {bb : List Nat} {sf k : Nat} (h1 : sf ≤ k) (h2 : k ≤ bb.length) : (nought bb sf k).length = bb.length := by unfold nought; simp; omega
theorem nought_set {bb : List Nat} {sf k : Nat} (h1 : sf ≤ k) (h2 : k < bb.length) : (nought bb sf k).set k 0 = nought bb sf (k + 1) := by
  unfold nought
  have hl : (bb.take sf ++ List.replicate (k - sf) 0).length = k := by simp; omega
  rw [List.set_append_right _ _ (by omega), hl, Nat.sub_self, List.drop_eq_getElem_cons h2, List.set_cons_zero]
  rw [show k + 1 - sf = (k - sf) + 1 by omega, List.replicate_succ']
  simp
theorem nought_end (bb : List Nat) (sf : Nat) : nought bb sf bb.length = bb.take sf ++ List.replicate (bb.length - sf) 0 := by unfold nought; simp
theorem l3_hs {b : OA} {m bc i : Nat} {c9 : Int} {a : OA} {ac : Nat} {bb : List Nat} {sf : Nat} {K : Ex → Fr → Heap → Prop} (hsf : sf ≤ bb.length) (hb : bb.length < 2 ^ 40)
    (kk : ∀ h', Hs h' (own a bb.length ac T_uint8 1 (nV (if c9 < 0 then bb.take sf ++ List.replicate (bb.length - sf) 0 else bb)) :: R) → K (.exit 4) (ref09_Disk_Crash.X4 (some ⟨s, 0, none⟩) b m bc (i : Nat) a bb.length ac) h') (H : Hs h (own a bb.length ac T_uint8 1 (nV bb) :: R)) :
    ref09_Disk_Crash.L3 (some ⟨s, 0, none⟩) b m bc (i : Nat) c9 a bb.length ac (sf : Nat) K h := by
  by_cases hc : c9 < 0
  · simp only [if_pos hc] at kk
    have go : ∀ (q k : Nat) {h : Heap}, k + q = bb.length → sf ≤ k → Hs h (own a bb.length ac T_uint8 1 (nV (nought bb sf k)) :: R) → ref09_Disk_Crash.L3 (some ⟨s, 0, none⟩) b m bc (i : Nat) c9 a bb.length ac (k : Nat) K h := by
      intro q
      induction q with
      | zero =>
        intro k h hk hs H
        have : k = bb.length := by omega
        subst this
        rw [nought_end] at H
        exact ref09_Disk_Crash.L3_of (br_false (decide_eq_false (by omega)) (kk h H))
      | succ q ih =>
        intro k h hk hs H
        refine ref09_Disk_Crash.L3_of (br_true (decide_eq_true (by omega)) (br_true (decide_eq_true hc) ?_))
        refine H.idx_set E_sl_uint8 (by omega) (by omega) rfl fun h2 H2 => ?_
        have e : (nV (nought bb sf k)).set k (.int .u8 0) = nV (nought bb sf (k + 1)) := by
          rw [← nought_set hs (by omega)]; simp [nV, List.map_set]
        rw [Int.toNat_natCast, e] at H2
        dsimp only
        rw [inc (by omega)]
        exact ih (k + 1) (by omega) (by omega) H2
    exact go (bb.length - sf) sf (by omega) (Nat.le_refl _) (by rw [nought_0]; exact H)
  · simp only [if_neg hc] at kk
    refine ref09_Disk_Crash.L3_of ((br_iff _ _ _).2 ⟨fun e => br_false (decide_eq_false hc) (kk h H), fun e => kk h H⟩)
theorem l1_hs {r : RA} {e : DS} {b : OA} {m bc sm : Nat} {K : Ex → Fr → Heap → Prop} (hd : DI d) (hsz : d.steps < 2 ^ 38) (hsm : sm ≤ d.chg.length) (hec : e.chg = d.chg)
    (kk : ∀ (h' : Heap) (N : Assn) (a4 : OA) (c4 : Nat), Gv [N] a4 ((aps d.safe (d.chg.take sm)).flatMap ndV) → Hs h' (N :: pt s T_haversackref09_Disk (rkV e r) :: ownC d r :: R) →
      K (.exit 0) (ref09_Disk_Crash.X0 (some ⟨s, 0, none⟩) b m bc a4 (aps d.safe (d.chg.take sm)).length c4) h') :
    ∀ (q j : Nat) {h : Heap} {N : Assn} {a4 : OA} {c4 : Nat}, j + q = sm → Gv [N] a4 ((aps d.safe (d.chg.take j)).flatMap ndV) → Hs h (N :: pt s T_haversackref09_Disk (rkV e r) :: ownC d r :: R) →
      ref09_Disk_Crash.L1 (some ⟨s, 0, none⟩) b m bc a4 (aps d.safe (d.chg.take j)).length c4 (sm : Nat) (j : Nat) K h := by
  intro q
  induction q with
  | zero =>
    intro j h N a4 c4 hj g H
    have : j = sm := by omega
    subst this
    exact ref09_Disk_Crash.L1_of (br_false (decide_eq_false (by omega)) (kk h N a4 c4 g H))
  | succ q ih =>
    intro j h N a4 c4 hj g H
    have hjn : j < d.chg.length := by omega
    refine ref09_Disk_Crash.L1_of (br_true (decide_eq_true (by omega)) ⟨_, _, _, H.m1.cell (off := 4) rfl, ?_⟩)
    rw [hec]
    refine idxf E_sl_haversackref09_Change (φ := rcV) (l := d.chg) (x := d.chg[j]) (Hs.rd (n := d.chg.length) H.m2) rcV_len (by decide) (by omega) (by omega) (by rw [Int.toNat_natCast, List.getElem?_eq_getElem hjn]) fun t ht => ⟨_, _, _, _, ht, ?_⟩
    have hl := hd.len j
    have hfl := hd.fl
    have hcl := hd.cl
    refine apply_hs (L := N :: _) (hd.wf _ (List.getElem_mem hjn)).one (Gv.one g) rfl (by omega) H fun h2 a2 c2 H2 => ⟨_, _, _, rfl, ?_⟩
    rw [← aps_take hjn] at H2 ⊢
    dsimp only
    rw [inc (by omega)]
    exact ih (j + 1) (by omega) Gv.own (H2.sel 4 [0, 2, 3])
theorem l2_hs {r : RA} {e : DS} {now : List (Nm × Nat)} {b : OA} {m bc : Nat} {cs : List Int} {fl0 : List Fil} {F0 : List (Nat × Obj)} {K : Ex → Fr → Heap → Prop} (hcs : I64 cs) (g : Gv L b (zV cs)) (hm : cs.length = m) (hm2 : m < 2 ^ 60) (hen : e.now = now) (hlen : now.length < 2 ^ 40)
    (hix : ∀ x ∈ now, x.2 < e.files.length)
    (kk : ∀ h' F' (fs : List RF), Le F0 F' → fs.map (·.f) = cutAll cs 1 now fl0 → (∀ r ∈ fs, RFok F' r) → Hs h' (pt s T_haversackref09_Disk (rkV e r) :: own r.fa e.files.length r.fc T_haversackref09_File 2 (fs.flatMap rfV) :: ownN e r :: frz F' :: L) →
      K (.exit 2) (ref09_Disk_Crash.X2 (some ⟨s, 0, none⟩)) h') :
    ∀ (q j : Nat) {h : Heap} {F : List (Nat × Obj)} {fs : List RF}, j + q = now.length → Le F0 F → cutAll cs (j + 1) (now.drop j) (fs.map (·.f)) = cutAll cs 1 now fl0 → (∀ r ∈ fs, RFok F r) → fs.length = e.files.length → (∀ r ∈ fs, r.f.safe ≤ r.f.bs.length ∧ r.f.bs.length ≤ 4194304) →
      Hs h (pt s T_haversackref09_Disk (rkV e r) :: own r.fa e.files.length r.fc T_haversackref09_File 2 (fs.flatMap rfV) :: ownN e r :: frz F :: L) →
      ref09_Disk_Crash.L2 (some ⟨s, 0, none⟩) b m bc (j : Nat) K h := by
  intro q
  induction q with
  | zero =>
    intro j h F fs hj hF hc hok hfl hfo H
    rw [List.drop_of_length_le (by omega)] at hc
    refine ref09_Disk_Crash.L2_of ⟨_, _, _, H.cell (off := 2) rfl, br_false (decide_eq_false (by rw [hen]; omega)) (kk h F fs hF hc hok H)⟩
  | succ q ih =>
    intro j h F fs hj hF hc hok hfl hfo H
    have hjn : j < now.length := by omega
    have hjn' : j < e.now.length := by rw [hen]; exact hjn
    refine ref09_Disk_Crash.L2_of ⟨_, _, _, H.cell (off := 2) rfl, br_true (decide_eq_true (by rw [hen]; omega)) ⟨_, _, _, H.cell (off := 1) rfl, _, _, _, H.cell (off := 2) rfl, ?_⟩⟩
    refine nd_idx (Hs.rd (n := e.now.length) H.m2) rfl hjn' fun t ht => ⟨_, nd_f ht, ?_⟩
    have hxe : e.now[j] = now[j] := by subst hen; rfl
    rw [hxe]
    generalize hx : now[j] = x
    have hxi : x.2 < e.files.length := hix x (hx ▸ List.getElem_mem hjn)
    have hxf : x.2 < fs.length := by rw [hfl]; exact hxi
    refine fs_idx (r := fs[x.2]) (Hs.rd (n := e.files.length) H.m1) (List.getElem?_eq_getElem hxf) hxi fun t2 ht2 => ⟨_, _, _, _, ht2, ?_⟩
    have hrok := hok _ (List.getElem_mem hxf)
    have hro := hfo _ (List.getElem_mem hxf)
    have hget : (fs.map (·.f))[x.2]? = some fs[x.2].f := by rw [List.getElem?_map, List.getElem?_eq_getElem hxf]; rfl
    generalize fs[x.2] = rf at *
    have H2 := H.new (t := T_haversackref09_File) (cs := #[(.slice none 0 0), (.int .i64 0)]) (xs := [(.slice none 0 0), (.int .i64 0)])
    dsimp only
    generalize Array.size h = kn at H2 ⊢
    generalize Array.push h _ = h2 at H2 ⊢
    refine Hs.wrs (b := kn) (vs := rfV rf) H2 (fun h3 H3 => ?_) rfl (rfV_one rf)
    rw [inc (by omega)]
    refine rchoice_hs (i := j + 1) (g _ (H3.sel 5 [])) hm ⟨_, rfl, ?_⟩
    refine ⟨_, _, _, H3.cell (off := 0) rfl, _, H3.cell (off := 1) rfl, ?_⟩
    generalize hcj : cs.getD (j + 1) 0 = cj at *
    have hcr := hcs.getD (j + 1)
    rw [hcj] at hcr
    have ew : IntKind.i64.wrap ((rf.f.bs.length : Int) - (rf.f.safe : Int)) = ((rf.f.bs.length - rf.f.safe : Nat) : Int) := by rw [wrap_i64_z (by omega) (by omega)]; omega
    rw [ew]
    refine ⟨_, rsays_pure hcr.1 hcr.2 (by omega), _, rfl, _, _, _, H3.cell (off := 0) rfl, _, H3.cell (off := 1) rfl, ?_⟩
    have hsl := says_le cj (rf.f.bs.length - rf.f.safe)
    generalize hsm : says cj (rf.f.bs.length - rf.f.safe) = sm at *
    have ew2 : IntKind.i64.wrap ((rf.f.safe : Int) + (sm : Int)) = ((rf.f.safe + sm : Nat) : Int) := by rw [wrap_i64_z (by omega) (by omega)]; omega
    rw [ew2]
    refine cutS E_sl_uint8 (i := 0) (j := rf.f.safe + sm) hrok.g (by rw [nV_len]; omega) hrok.le hrok.n0 (Nat.zero_le _) (by omega) rfl rfl fun a4 c4 g4 h4n h4c h40 => ⟨_, _, _, rfl, ?_⟩
    have eb : ((nV rf.f.bs).drop (0 * 1)).take ((rf.f.safe + sm - 0) * 1) = nV (rf.f.bs.take (rf.f.safe + sm)) := by rw [nV_take]; simp
    rw [eb] at g4
    have ecut : (cut cj rf.f).bs = (if cj < 0 then (rf.f.bs.take (rf.f.safe + sm)).take rf.f.safe ++ List.replicate ((rf.f.bs.take (rf.f.safe + sm)).length - rf.f.safe) 0 else rf.f.bs.take (rf.f.safe + sm)) := by
      unfold cut; dsimp only; rw [hsm]
    have ecs : (cut cj rf.f).safe = (cut cj rf.f).bs.length := rfl
    generalize hbb : rf.f.bs.take (rf.f.safe + sm) = bb at *
    have hbl : bb.length = rf.f.safe + sm := by rw [← hbb, List.length_take]; omega
    rw [Nat.sub_zero, ← hbl]
    rw [Nat.sub_zero, ← hbl] at h4n
    refine (H3.own_nil T_uint8 1).app_sl E_sl_uint8 (m := bb.length) (ys := nV bb) (g4 _ (Hs.one H3.m4)) (by rw [nV_len]; omega) h4n (nV_one _) (fun h5 a5 c5 H5 => ⟨_, _, _, rfl, ?_⟩) (by omega) (by omega)
    rw [Nat.zero_add, List.nil_append] at H5
    rw [Nat.zero_add]
    refine ⟨_, H5.m1.cell (off := 1) rfl, ?_⟩
    refine l3_hs (sf := rf.f.safe) (bb := bb) (by omega) (by omega) (fun h6 H6 => ?_) H5
    rw [← ecut] at H6
    have ebl : bb.length = (cut cj rf.f).bs.length := by
      rw [ecut]; split
      · simp; omega
      · rfl
    rw [ebl] at H6 ⊢
    have h6le := H6.own_le
    have h6n : a5 = none → c5 = 0 := fun q => by subst q; exact H6.own_none
    -- 0 own 1 pt kn 2 pt s 3 file 4 N 5 frz
    refine ref09_Disk_Crash.L3_X4 ⟨_, _, _, H6.m2.cell (off := 1) rfl, _, _, _, H6.m2.cell (off := 2) rfl, ?_⟩
    refine nd_idx (Hs.rd (n := e.now.length) H6.m4) rfl hjn' fun t3 ht3 => ⟨_, nd_f ht3, ?_⟩
    rw [hxe, hx]
    refine Hs.idx_wrf (φ := rfV) (⟨a5, c5, cut cj rf.f⟩ : RF) E_sl_haversackref09_File (H6.m3) (by omega) (by omega) rfV_len (by decide) (rfV_one _) fun h7 H7 => ?_
    rw [Int.toNat_natCast] at H7
    dsimp only
    rw [inc (by omega)]
    obtain ⟨F', hl', g', H8⟩ := freeze (H7.sel 6 [1, 5, 3, 0, 4])
    refine ih (j + 1) (F := F') (fs := fs.set x.2 ⟨a5, c5, cut cj rf.f⟩) (by omega) (fun y hy => hl' y (hF y hy)) ?_ (fun y hy => ?_) (by rw [List.length_set]; exact hfl) (fun y hy => ?_) (H8.sel 4 [1, 2, 3, 0])
    · rw [← hc, List.drop_eq_getElem_cons hjn, hx, List.map_set]
      show _ = cutAll cs (j + 1 + 1) (now.drop (j + 1)) ((fs.map (·.f)).set x.2 (cut (cs.getD (j + 1) 0) ((fs.map (·.f))[x.2]?.getD fil0)))
      rw [hcj, hget]; rfl
    · rcases List.mem_or_eq_of_mem_set hy with q | rfl
      · exact (hok y q).mono hl'
      · exact ⟨g', h6le, h6n⟩
    · rcases List.mem_or_eq_of_mem_set hy with q | rfl
      · exact hfo y q
      · exact cut_ok _ hro
theorem RCrash_hs {b : OA} {m bc : Nat} {cs : List Int} (hd : DI d) (hb : d.steps < 2 ^ 38) (g : Gv L b (zV cs)) (hm : cs.length = m) (hm2 : m < 2 ^ 60) (hcs : I64 cs) (H : Hs h (refA s d F :: frz F :: L))
    (kk : ∀ h' F', Le F F' → Hs h' (refA s (d.crash cs) F' :: frz F' :: L) → Q (.tuple #[]) h') :
    SpecH PP F_ref09_Disk_Crash [.pointer (some ⟨s, 0, none⟩), .slice b m bc] h Q := by
  obtain ⟨fs, r, k, H1⟩ := refA_open.1 H
  have hnl := hd.lenn
  have hfl := hd.fl
  have hcl := hd.cl
  have hfs := k.len
  refine ref09_Disk_Crash.door (H1.sto (off := 6) (by simp [rkV]) fun h2 H2 => ?_)
  have e1 : (rkV d r).set 6 (.int .i64 (-1)) = rkV { d with left := none } r := by simp [rkV, lf]
  rw [e1] at H2
  have hc0 := hcs.getD 0
  have fin : ref09_Disk_Crash.J1 (some ⟨s, 0, none⟩) b m bc r.sa d.safe.length r.sc (says (cs.getD 0 0) d.chg.length : Nat) Q h2 := by
    have hsl := says_le (cs.getD 0 0) d.chg.length
    have enow : (d.crash cs).now = aps d.safe (d.chg.take (says (cs.getD 0 0) d.chg.length)) := rfl
    have esafe : (d.crash cs).safe = aps d.safe (d.chg.take (says (cs.getD 0 0) d.chg.length)) := rfl
    have efs : (d.crash cs).files = cutAll cs 1 (aps d.safe (d.chg.take (says (cs.getD 0 0) d.chg.length))) d.files := rfl
    have hxk := hd.ixs (says (cs.getD 0 0) d.chg.length)
    have hln := hd.len (says (cs.getD 0 0) d.chg.length)
    generalize hsm : says (cs.getD 0 0) d.chg.length = sm at *
    refine ref09_Disk_Crash.J1_of ?_
    have g0 : Gv [ownS d r] r.sa ((aps d.safe (d.chg.take 0)).flatMap ndV) := Gv.own
    refine l1_hs (s := s) (d := d) (r := r) (e := { d with left := none }) (R := ownF d r fs :: ownN d r :: frz F :: L) hd hb hsl rfl ?_ sm 0 (by omega) g0 (H2.sel 6 [3, 0, 4, 1, 2, 5])
    intro h3 N a4 c4 g4 H3
    generalize hnow : aps d.safe (d.chg.take sm) = now at *
    refine ref09_Disk_Crash.L1_X0 ?_
    refine without_hs (L := N :: _) (l := now) (Gv.one g4) rfl (by omega) H3 fun h5 a5 c5 H5 => ⟨_, _, _, rfl, ?_⟩
    rw [mdel_e0 fun x hx => (hxk x hx).1] at H5 ⊢
    -- 0 own 1 N 2 pt 3 C 4 F 5 oldN 6 frz
    refine H5.m2.sto (off := 2) (by simp [rkV]) fun h6 H6 => ?_
    have e2 : (rkV { d with left := none } r).set 2 (.slice a5 now.length c5) = rkV { d with left := none, now := now } { r with na := a5, nc := c5 } := by simp [rkV, lf]
    rw [e2] at H6
    refine l2_hs (s := s) (r := { r with na := a5, nc := c5 }) (e := { d with left := none, now := now }) (now := now) (fl0 := d.files) (F0 := F) hcs g hm hm2 rfl (by omega) (fun x hx => (hxk x hx).2) ?_ now.length 0 (F := F) (fs := fs) (by omega) (fun _ q => q) (by rw [List.drop_zero, k.m]) k.ok hfs ?_ (H6.sel 7 [0, 4, 1, 6])
    · intro h7 F' fs' hF' hfm hok H7
      refine ref09_Disk_Crash.L2_X2 ⟨_, _, _, H7.cell (off := 2) rfl, ?_⟩
      refine without_hs (L := ownN { d with left := none, now := now } { r with na := a5, nc := c5 } :: _) (l := now) Gv.own rfl (show now.length < 2 ^ 40 by omega) H7.m2 fun h8 a8 c8 H8 => ⟨_, _, _, rfl, ?_⟩
      rw [mdel_e0 fun x hx => (hxk x hx).1] at H8 ⊢
      -- 0 own 1 N 2 pt 3 F 4 frz
      refine H8.m2.sto (off := 3) (by simp [rkV]) fun h9 H9 => ?_
      refine H9.sto (off := 4) (by simp [rkV]) fun h10 H10 => ?_
      have hfl2 : (cutAll cs 1 now d.files).length = d.files.length := cutAll_len _ _ _ _
      have e3 : (((rkV { d with left := none, now := now } { r with na := a5, nc := c5 }).set 3 (.slice a8 now.length c8)).set 4 (.slice none 0 0)) = rkV (d.crash cs) ⟨r.fa, r.fc, a5, c5, a8, c8, none, 0⟩ := by
        simp only [rkV, enow, esafe, efs, hfl2]; rfl
      rw [e3] at H10
      refine kk h10 F' hF' (refA_open.2 ⟨fs', ⟨r.fa, r.fc, a5, c5, a8, c8, none, 0⟩, ⟨by rw [efs]; exact hfm, hok⟩, ?_⟩)
      unfold ownF ownN ownS ownC
      rw [enow, esafe, efs, hfl2]
      exact (H10.own_nil T_haversackref09_Change 4).sel 6 [1, 4, 3, 2, 0, 5]
    · intro rf hrf
      have : rf.f ∈ d.files := by rw [← k.m]; exact List.mem_map_of_mem hrf
      exact hd.fil _ this
  have hsp : PureAt PP F_ref09_says [.int .i64 (cs.getD 0 0), .int .i64 ((d.chg.length : Nat) : Int)] (.int .i64 (says (cs.getD 0 0) d.chg.length : Nat)) := rsays_pure hc0.1 hc0.2 (by omega)
  have hr := g _ (H2.sel 6 [])
  refine ⟨_, _, _, H2.cell (off := 3) rfl, ⟨?_, ?_, trivial⟩⟩
  · exact rchoice_hs (i := 0) hr hm ⟨_, rfl, _, _, _, H2.cell (off := 4) rfl, _, hsp, _, rfl, fin⟩
  · exact ⟨_, _, _, H2.cell (off := 4) rfl, rchoice_hs (i := 0) hr hm ⟨_, rfl, _, hsp, _, rfl, fin⟩⟩
end Go.Proofs.Ytkogmkajhjmkeaa

set_option maxRecDepth 20000
set_option linter.unusedVariables false
set_option linter.unusedSimpArgs false
namespace Go.Proofs.Ytkogmkajhjmkeaa
open Go Go.HW
theorem keepBytes_loop {a b : Option Addr} {n c m d : Nat} {xs ys : List Nat} {h : Heap} {K : Ex → Fr → Heap → Prop} (ha : Rd h a (nV xs)) (hb : Rd h b (nV ys)) (hna : xs.length = n) (hnb : ys.length = n) (hm : m = n) (hmax : n < 2 ^ 62)
    (k1 : xs = ys → K (.exit 0) keep_Bytes.X0 h) (k2 : xs ≠ ys → K .ret (keep_Bytes.Xret false) h) : ∀ (k i : Nat), i + k = n → xs.take i = ys.take i → keep_Bytes.L1 a n c b m d i K h := by
  subst hm
  intro k
  induction k with
  | zero =>
    intro i hi ht
    refine keep_Bytes.L1_of (br_false (decide_eq_false (by omega)) (k1 ?_))
    rwa [List.take_of_length_le (by omega), List.take_of_length_le (by omega)] at ht
  | succ k ih =>
    intro i hi ht
    have h1 : i < xs.length := by omega
    have h2 : i < ys.length := by omega
    refine keep_Bytes.L1_of (br_true (decide_eq_true (by omega)) ?_)
    refine idx E_sl_uint8 ha (by omega) (by omega) (v := .int .u8 (xs[i] : Nat)) (by rw [Int.toNat_natCast]; exact nV_get h1) fun t ht1 => ⟨_, ht1, ?_⟩
    refine idx E_sl_uint8 hb (by omega) (by omega) (v := .int .u8 (ys[i] : Nat)) (by rw [Int.toNat_natCast]; exact nV_get h2) fun t ht2 => ⟨_, ht2, ?_⟩
    simp only [inc (show i < 2 ^ 62 by omega)]
    refine (br_iff _ _ _).2 ⟨fun hb' => k2 ?_, fun hb' => ih (i + 1) (by omega) ?_⟩
    · rintro rfl; simp at hb'
    · have e : xs[i] = ys[i] := by simp only [bne_eq_false_iff_eq] at hb'; omega
      rw [List.take_succ_eq_append_getElem h1, List.take_succ_eq_append_getElem h2, ht, e]
theorem keepBytes_spec {a b : Option Addr} {n c m d : Nat} {xs ys : List Nat} {h : Heap} {Q : Value → Heap → Prop} (ha : Rd h a (nV xs)) (hb : Rd h b (nV ys)) (hna : xs.length = n) (hnb : ys.length = m) (hmax : n < 2 ^ 62)
    (kk : Q (.bool (decide (xs = ys))) h) : SpecH PP F_keep_Bytes [.slice a n c, .slice b m d] h Q := by
  refine keep_Bytes.door ?_
  refine (br_iff _ _ _).2 ⟨fun hne => ?_, fun heq => ?_⟩
  · rw [decide_eq_false (fun e => by subst e; simp at hne; omega)] at kk; exact kk
  · have e : m = n := by simp at heq; omega
    refine keepBytes_loop ha hb hna (by omega) e hmax (fun e => ?_) (fun e => ?_) n 0 (by omega) rfl
    · refine keep_Bytes.L1_X0 ?_; rwa [decide_eq_true e] at kk
    · refine keep_Bytes.L1_Xret ?_; rwa [decide_eq_false e] at kk
end Go.Proofs.Ytkogmkajhjmkeaa

set_option maxRecDepth 20000
set_option linter.unusedVariables false
set_option linter.unusedSimpArgs false
namespace Go.Proofs.Ytkogmkajhjmkeaa
open Go Go.HW
variable {h : Heap} {L : List Assn} {Q : Value → Heap → Prop}
/-- A lent row: the bytes, and two marks behind them. -/
def lent (b : Nat) (xs : List Nat) : Assn := own (some ⟨b, 0, none⟩) (xs.length + 2) (xs.length + 2) T_uint8 1 (nV (xs ++ [165, 90]))
theorem Gv_lent {b : Nat} {xs : List Nat} : Gv (lent b xs :: L) (some ⟨b, 0, none⟩) (nV xs) := by
  have := (Gv.own (L := L) (a := some ⟨b, 0, none⟩) (n := xs.length + 2) (c := xs.length + 2) (e := T_uint8) (sz := 1) (xs := nV (xs ++ [165, 90]))).take xs.length
  rwa [show (nV (xs ++ [165, 90])).take xs.length = nV xs by rw [nV_app, List.take_append_of_le_length (by rw [nV_len]; exact Nat.le_refl _), List.take_of_length_le (by rw [nV_len]; exact Nat.le_refl _)]] at this
theorem Lend_spec {a : Option Addr} {n c : Nat} {xs : List Nat} (hr : Rd h a (nV xs)) (hn : xs.length = n) (hmax : n < 2 ^ 40) (hn0 : a = none → n = 0) (H : Hs h L)
    (kk : ∀ h' b, Hs h' (lent b xs :: L) → Q (.slice (some ⟨b, 0, none⟩) n (n + 2)) h') (hr2 : Gv L a (nV xs)) : SpecH PP F_keep_Lend [.slice a n c] h Q := by
  refine keep_Lend.door ?_
  have w2 : IntKind.i64.wrap ((n : Int) + 2) = ((n + 2 : Nat) : Int) := by rw [wrap_i64_z (by omega) (by omega)]; simp
  have w1 : IntKind.i64.wrap ((n : Int) + 1) = ((n + 1 : Nat) : Int) := inc (by omega)
  simp only [w1, w2]
  refine H.make E_sl_uint8 rfl rfl (Nat.le_refl _) (by omega) (by omega) fun h1 b H1 => ⟨_, _, _, rfl, ?_⟩
  refine H1.copy (off := 0) (ys := nV xs) E_sl_uint8 (by rw [nV_len]; simp; omega) (hr2 _ H1.tl) hn0 (by rw [nV_len, hn, Nat.min_eq_left (by omega), Nat.mul_one]) (nV_one _) fun h2 H2 => ⟨_, rfl, ?_⟩
  have e1 : (List.replicate (n + 2) (Value.int .u8 0)).take 0 ++ nV xs ++ (List.replicate (n + 2) (Value.int .u8 0)).drop (0 + (nV xs).length) = nV (xs ++ 0 :: [0]) := by
    rw [List.take_zero, List.nil_append, nV_len, hn, List.drop_replicate, nV_app]; congr 1
    rw [show n + 2 - (0 + n) = 2 by omega]; rfl
  rw [e1] at H2
  have hl : ∀ x y : Nat, (nV (xs ++ x :: [y])).length = n + 2 := fun x y => by rw [nV_len, List.length_append, hn]; rfl
  refine (H2.pt_all (n := n + 2) (hl 0 0)).idx_set E_sl_uint8 (by omega) (by omega) rfl fun h3 H3 => ?_
  rw [Int.toNat_natCast, show (Value.int .u8 165) = .int .u8 ((165 : Nat) : Int) from rfl, nV_setat hn] at H3
  refine H3.idx_set E_sl_uint8 (by omega) (by omega) rfl fun h4 H4 => ?_
  have e2 : xs ++ 165 :: [0] = (xs ++ [165]) ++ 0 :: [] := by simp
  rw [Int.toNat_natCast, e2, show (Value.int .u8 90) = .int .u8 ((90 : Nat) : Int) from rfl, nV_setat (by simp [hn])] at H4
  refine slice_pre E_sl_uint8 (by omega) ⟨some ⟨b, 0, none⟩, n, n + 2, rfl, kk h4 b ?_⟩
  · unfold lent; rw [hn]
    have e3 : (xs ++ [165]) ++ 90 :: [] = xs ++ [165, 90] := by simp
    rw [e3] at H4; exact H4
theorem scr_loop {b n : Nat} {ok : Bool} {K : Ex → Fr → Heap → Prop} (hmax : n < 2 ^ 41) (kk : ∀ h', Hs h' L → K (.exit 2) (keep_Back.X2 ok) h') :
    ∀ (k i : Nat) {h : Heap} {l : List Nat}, i + k = n → l.length = n → Hs h (own (some ⟨b, 0, none⟩) n n T_uint8 1 (nV l) :: L) → keep_Back.L2 (some ⟨b, 0, none⟩) n n ok i K h := by
  intro k
  induction k with
  | zero =>
    intro i h l hi hl H
    exact keep_Back.L2_of (br_false (decide_eq_false (by omega)) (kk h H.tl))
  | succ k ih =>
    intro i h l hi hl H
    have hil : i < l.length := by omega
    refine keep_Back.L2_of (br_true (decide_eq_true (by omega)) ?_)
    refine idx E_sl_uint8 H.rd (by omega) (by omega) (v := .int .u8 (l[i] : Nat)) (by rw [Int.toNat_natCast]; exact nV_get hil) fun t ht => ⟨_, ht, ?_⟩
    have w : IntKind.u8.wrap ((l[i] : Int) + 77) = (((l[i] + 77) % 256 : Nat) : Int) := by rw [show (l[i] : Int) + 77 = ((l[i] + 77 : Nat) : Int) by simp, wrap_u8]
    refine H.idx_set E_sl_uint8 (by omega) (by omega) rfl fun h2 H2 => ?_
    rw [Int.toNat_natCast, w] at H2
    have e : (nV l).set i (.int .u8 (((l[i] + 77) % 256 : Nat) : Int)) = nV (l.set i ((l[i] + 77) % 256)) := by simp [nV, List.map_set]
    rw [e] at H2
    simp only [inc (show i < 2 ^ 62 by omega)]
    exact ih (i + 1) (by omega) (by simp [hl]) H2
theorem cmp_loop {b n m d : Nat} {a : Option Addr} {xs : List Nat} {K : Ex → Fr → Heap → Prop} (hr : Rd h (some ⟨b, 0, none⟩) (nV (xs ++ [165, 90]))) (hr2 : Rd h a (nV xs)) (hn : xs.length = n) (hmax : n < 2 ^ 40)
    (kk : K (.exit 0) (keep_Back.X0 (some ⟨b, 0, none⟩) (n + 2) (n + 2) true) h) :
    ∀ (k i : Nat), i + k = n → keep_Back.L1 (some ⟨b, 0, none⟩) n d a n m (some ⟨b, 0, none⟩) (n + 2) (n + 2) true i K h := by
  intro k
  induction k with
  | zero =>
    intro i hi
    exact keep_Back.L1_of (br_false (decide_eq_false (by omega)) kk)
  | succ k ih =>
    intro i hi
    have hil : i < xs.length := by omega
    refine keep_Back.L1_of (br_true (decide_eq_true (by omega)) (br_true rfl ?_))
    refine idx E_sl_uint8 hr (by omega) (by omega) (v := .int .u8 (xs[i] : Nat)) (by rw [Int.toNat_natCast, nV_app, List.getElem?_append_left (by rw [nV_len]; exact hil)]; exact nV_get hil) fun t ht => ⟨_, ht, ?_⟩
    refine idx E_sl_uint8 hr2 (by omega) (by omega) (v := .int .u8 (xs[i] : Nat)) (by rw [Int.toNat_natCast]; exact nV_get hil) fun t ht => ⟨_, ht, keep_Back.J2_of ?_⟩
    rw [beq_self_eq_true]
    simp only [inc (show i < 2 ^ 62 by omega)]
    exact ih (i + 1) (by omega)
theorem Back_spec {b n m : Nat} {a : Option Addr} {xs : List Nat} (hr2 : Gv L a (nV xs)) (hn : xs.length = n) (hmax : n < 2 ^ 40) (H : Hs h (lent b xs :: L)) (kk : ∀ h', Hs h' L → Q (.bool true) h') :
    SpecH PP F_keep_Back [.slice (some ⟨b, 0, none⟩) n (n + 2), .slice a n m] h Q := by
  refine keep_Back.door ?_
  have w2 : IntKind.i64.wrap ((n : Int) + 2) = ((n + 2 : Nat) : Int) := by rw [wrap_i64_z (by omega) (by omega)]; simp
  have w1 : IntKind.i64.wrap ((n : Int) + 1) = ((n + 1 : Nat) : Int) := inc (by omega)
  simp only [w1, w2]
  unfold lent at H; rw [hn] at H
  refine slice_pre E_sl_uint8 (by omega) ⟨some ⟨b, 0, none⟩, n + 2, n + 2, rfl, ?_⟩
  have e1 : (nV (xs ++ [165, 90]))[n]? = some (.int .u8 165) := by rw [← hn]; simp [nV]
  have e2 : (nV (xs ++ [165, 90]))[n + 1]? = some (.int .u8 90) := by rw [← hn]; simp [nV]
  refine idx E_sl_uint8 H.rd (by omega) (by omega) (by rw [Int.toNat_natCast]; exact e1) fun t ht => ⟨_, ht, br_true rfl ?_⟩
  refine idx E_sl_uint8 H.rd (by omega) (by omega) (by rw [Int.toNat_natCast]; exact e2) fun t ht => ⟨_, ht, keep_Back.J1_of ?_⟩
  refine cmp_loop H.rd (hr2 _ H.tl) hn hmax ?_ n 0 (by omega)
  refine keep_Back.L1_X0 ?_
  refine scr_loop (by omega) (fun h2 H2 => ?_) (n + 2) 0 (by omega) (by simp [hn]) H
  refine keep_Back.L2_X2 ?_
  exact kk h2 H2
end Go.Proofs.Ytkogmkajhjmkeaa

set_option maxRecDepth 20000
set_option linter.unusedVariables false
set_option linter.unusedSimpArgs false
namespace Go.Proofs.Ytkogmkajhjmkeaa
open Go Go.HW
variable {h : Heap} {L : List Assn} {Q : Value → Heap → Prop}
theorem texts_hs {a b : OA} {n m c e : Nat} {l l' : List Nm} (ha : Rd h a (l.map Value.string)) (hb : Rd h b (l'.map Value.string)) (hn : l.length = n) (hm : l'.length = m) (hmax : n < 2 ^ 60) (k : l = l' → Q (.bool true) h) (he : l = l') : SpecH PP F_keep_Texts [.slice a n c, .slice b m e] h Q := by
  subst he
  have : n = m := by omega
  subst this
  refine keep_Texts.door (br_false (by simp) ?_)
  have go : ∀ (q i : Nat), i + q = n → keep_Texts.L1 a n c b n e (i : Nat) (keep_Texts.K1 Q) h := by
    intro q
    induction q with
    | zero =>
      intro i hi
      exact keep_Texts.L1_of (br_false (decide_eq_false (by omega)) (keep_Texts.L1_X0 (k rfl)))
    | succ q ih =>
      intro i hi
      have hin : i < l.length := by omega
      refine keep_Texts.L1_of (br_true (decide_eq_true (by omega)) ?_)
      refine idx E_sl_string (v := .string l[i]) ha (by omega) (by omega) (by rw [Int.toNat_natCast, List.getElem?_map, List.getElem?_eq_getElem hin]; rfl) fun t ht => ⟨_, ht, ?_⟩
      refine idx E_sl_string (v := .string l[i]) hb (by omega) (by omega) (by rw [Int.toNat_natCast, List.getElem?_map, List.getElem?_eq_getElem hin]; rfl) fun t2 ht2 => ⟨_, ht2, br_false (by simp) ?_⟩
      dsimp only
      rw [inc (by omega)]
      exact ih (i + 1) (by omega)
  exact go n 0 (by omega)
theorem inc63 {i : Nat} (hi : i + 1 < 2 ^ 63) : IntKind.i64.wrap ((i : Int) + 1) = ((i + 1 : Nat) : Int) := by rw [wrap_i64_z (by omega) (by omega)]; simp
/-- Bytes of one's own are written over, their room too. -/
theorem spoil_hs {a : OA} {n c : Nat} {xs : List Nat} (hc : c < 2 ^ 63) (H : Hs h (ownB a n c T_uint8 xs :: L)) (kk : ∀ h', Hs h' L → Q (.tuple #[]) h') : SpecH PP F_keep_Spoil [.slice a n c] h Q := by
  obtain ⟨zs, ⟨h1, h2⟩, H1⟩ := ownB_open.1 H
  refine keep_Spoil.door ?_
  refine hwp_sliceSl E_sl_uint8 (lo := none) (hi := some (.int .i64 (c : Nat))) trivial trivial (by simp [bnd]) (by simp [bnd]) (by simp [bnd]) ?_
  refine ⟨_, _, _, rfl, ?_⟩
  have e : (if (c : Int) = bnd none 0 then a else a.map (·.add ((bnd none 0).toNat * 1))) = a := by
    split
    · rfl
    · cases a <;> simp [bnd, Addr.add]
  rw [e]
  simp only [bnd, Int.toNat_natCast, Int.toNat_zero, Nat.sub_zero]
  have go : ∀ (k i : Nat) {h : Heap} {ys : List Nat}, i + k = c → ys.length = c → Hs h (own a c c T_uint8 1 (nV ys) :: L) → keep_Spoil.L1 a c c (i : Nat) (keep_Spoil.K1 Q) h := by
    intro k
    induction k with
    | zero =>
      intro i h ys hi hl H
      exact keep_Spoil.L1_of (br_false (decide_eq_false (by omega)) (keep_Spoil.L1_X0 (kk h H.tl)))
    | succ k ih =>
      intro i h ys hi hl H
      have hil : i < ys.length := by omega
      refine keep_Spoil.L1_of (br_true (decide_eq_true (by omega)) ?_)
      refine idx E_sl_uint8 H.rd (by omega) (by omega) (v := .int .u8 (ys[i] : Nat)) (by rw [Int.toNat_natCast]; exact nV_get hil) fun t ht => ⟨_, ht, ?_⟩
      have w : IntKind.u8.wrap ((ys[i] : Int) + 99) = (((ys[i] + 99) % 256 : Nat) : Int) := by rw [show (ys[i] : Int) + 99 = ((ys[i] + 99 : Nat) : Int) by simp, wrap_u8]
      refine H.idx_set E_sl_uint8 (by omega) (by omega) rfl fun h2 H2 => ?_
      rw [Int.toNat_natCast, w] at H2
      have e : (nV ys).set i (.int .u8 (((ys[i] + 99) % 256 : Nat) : Int)) = nV (ys.set i ((ys[i] + 99) % 256)) := by simp [nV, List.map_set]
      rw [e] at H2
      dsimp only
      rw [inc63 (by omega)]
      exact ih (i + 1) (by omega) (by simp [hl]) H2
  exact go c 0 (by omega) h1 H1
def nmA : Nm := ⟨#[97]⟩
def aw1 : DS := ((dnew (4 : Int).toNat).create nmA).1
def aw2 : DS := (aw1.append nmA [1, 2, 3]).1
def aw3 : DS := (aw2.append nmA [4, 5]).1
def aw4 : DS := (aw3.sync nmA).1
def aw5 : DS := (aw4.append nmA [9]).1
def aw6 : DS := aw5.syncdir.1
theorem awake_hs (H : Hs h L) (kk : ∀ h', Hs h' L → Q (.bool true) h') : SpecH PP F_law09_awake [] h Q := by
  have i0 : DI (dnew (4 : Int).toNat) := di_new (by decide)
  have i1 : DI aw1 := i0.create _
  have i2 : DI aw2 := i1.append _ _
  have i3 : DI aw3 := i2.append _ _
  have i4 : DI aw4 := i3.sync _
  have i5 : DI aw5 := i4.append _ _
  have i6 : DI aw6 := i5.syncdir
  have i7 : DI (aw6.crash [0, -2]) := i6.crash _
  have i8 : DI (aw6.crash [0, 1]) := i6.crash _
  have s1 : aw1.steps ≤ 1 := create_steps _
  have s2 : aw2.steps ≤ aw1.steps + 1 := append_steps _ _
  have s3 : aw3.steps ≤ aw2.steps + 1 := append_steps _ _
  have s4 : aw4.steps ≤ aw3.steps + 1 := sync_steps _
  have s5 : aw5.steps ≤ aw4.steps + 1 := append_steps _ _
  have s6 : aw6.steps ≤ aw5.steps + 1 := syncdir_steps
  have c1 : ((dnew (4 : Int).toNat).create nmA).2 = 0 := by kernel_rfl
  have c2 : (aw1.append nmA [1, 2, 3]).2 = 0 := by kernel_rfl
  have c3 : (aw2.append nmA [4, 5]).2 = 93 := by kernel_rfl
  have c4 : (aw3.sync nmA).2 = 0 := by kernel_rfl
  have c5 : (aw4.append nmA [9]).2 = 0 := by kernel_rfl
  have c6 : aw5.syncdir.2 = 0 := by kernel_rfl
  have c7 : (aw6.crash [0, -2]).read nmA = ([1, 2, 3, 0], 0) := by kernel_rfl
  have c8 : (aw6.crash [0, 1]).read nmA = ([1, 2, 3, 9], 0) := by kernel_rfl
  have c9 : (aw6.crash [0, -2]).steps = 5 := by kernel_rfl
  have z1 : I64 [0, -2] := by intro c hc; simp at hc; rcases hc with rfl | rfl <;> omega
  have z2 : I64 [0, 1] := by intro c hc; simp at hc; rcases hc with rfl | rfl <;> omega
  refine law09_awake.door (New_hs H (fun e => by omega) fun _ _ h1 p H1 => ⟨_, _, rfl, br_false rfl (law09_awake.J1_of (br_false rfl ?_))⟩)
  refine Create_hs (n := nmA) i0 (by decide) (by decide) H1 fun h2 H2 => ⟨_, rfl, ?_⟩
  rw [c1]
  have H2 : Hs h2 (diskA p aw1 :: L) := H2
  have N3 := (H2.new (t := T_uint8) (cs := #[(.int .u8 1), (.int .u8 2), (.int .u8 3)]) (xs := nV [1, 2, 3])).m1
  dsimp only
  generalize Array.size h2 = b3 at N3 ⊢
  generalize Array.push h2 _ = h3 at N3 ⊢
  refine Append_hs (n := nmA) (bs := [1, 2, 3]) i1 (by omega) Gv.pt rfl (by decide) (fun e => nomatch e) N3 fun h4 H4 => ⟨_, rfl, ?_⟩
  rw [c2]
  have H4 : Hs h4 (diskA p aw2 :: L) := H4.sel 2 [0]
  have N5 := (H4.new (t := T_uint8) (cs := #[(.int .u8 4), (.int .u8 5)]) (xs := nV [4, 5])).m1
  generalize Array.size h4 = b5 at N5 ⊢
  generalize Array.push h4 _ = h5 at N5 ⊢
  refine Append_hs (n := nmA) (bs := [4, 5]) i2 (by omega) Gv.pt rfl (by decide) (fun e => nomatch e) N5 fun h6 H6 => ⟨_, rfl, ?_⟩
  rw [c3]
  have H6 : Hs h6 (diskA p aw3 :: L) := H6.sel 2 [0]
  refine Sync_hs (n := nmA) i3 (by omega) H6 fun h7 H7 => ⟨_, rfl, ?_⟩
  rw [c4]
  have H7 : Hs h7 (diskA p aw4 :: L) := H7
  have N8 := (H7.new (t := T_uint8) (cs := #[(.int .u8 9)]) (xs := nV [9])).m1
  generalize Array.size h7 = b8 at N8 ⊢
  generalize Array.push h7 _ = h8 at N8 ⊢
  refine Append_hs (n := nmA) (bs := [9]) i4 (by omega) Gv.pt rfl (by decide) (fun e => nomatch e) N8 fun h9 H9 => ⟨_, rfl, ?_⟩
  rw [c5]
  have H9 : Hs h9 (diskA p aw5 :: L) := H9.sel 2 [0]
  refine SyncDir_hs i5 (by omega) H9 fun h10 H10 => ⟨_, rfl, ?_⟩
  rw [c6]
  have H10 : Hs h10 (diskA p aw6 :: L) := H10
  refine Clone_hs i6 (by omega) H10 fun h11 x H11 => ⟨_, rfl, br_false rfl ?_⟩
  have N12 := (H11.new (t := T_int) (cs := #[(.int .i64 0), (.int .i64 (-2))]) (xs := zV [0, -2])).m2
  generalize Array.size h11 = b12 at N12 ⊢
  generalize Array.push h11 _ = h12 at N12 ⊢
  refine Crash_hs (cs := [0, -2]) i6 (by omega) Gv.pt rfl (Nat.le_refl _) (fun e => nomatch e) z1 N12.tl N12 fun h13 H13 => ⟨_, rfl, ?_⟩
  refine Read_hs (n := nmA) i7 H13 fun h14 a14 c14 H14 => ⟨_, _, _, _, rfl, ?_⟩
  rw [c7] at H14 ⊢
  have N15 := (H14.new (t := T_int) (cs := #[(.int .i64 0), (.int .i64 1)]) (xs := zV [0, 1])).sel 5 [4, 0, 1, 2]
  dsimp only
  generalize Array.size h14 = b15 at N15 ⊢
  generalize Array.push h14 _ = h15 at N15 ⊢
  refine Crash_hs (cs := [0, 1]) i6 (by omega) Gv.pt rfl (Nat.le_refl _) (fun e => nomatch e) z2 N15.tl N15 fun h16 H16 => ⟨_, rfl, ?_⟩
  refine Read_hs (n := nmA) i8 H16 fun h17 a17 c17 H17 => ⟨_, _, _, _, rfl, ?_⟩
  rw [c8] at H17 ⊢
  dsimp only
  refine br_true rfl (br_true rfl (br_true rfl (br_true rfl (br_true rfl (br_true rfl (br_true rfl (br_true rfl (br_true rfl ?_))))))))
  -- 0 own17 1 disk x 2 pt 3 own14 4 disk p
  refine law09_awake.J2_of (br_true rfl ?_)
  have N18 := H17.new (t := T_uint8) (cs := #[(.int .u8 1), (.int .u8 2), (.int .u8 3), (.int .u8 0)]) (xs := nV [1, 2, 3, 0])
  dsimp only
  generalize Array.size h17 = b18 at N18 ⊢
  generalize Array.push h17 _ = h18 at N18 ⊢
  refine keepBytes_spec (xs := [1, 2, 3, 0]) (ys := [1, 2, 3, 0]) (N18.m4.rd) (Gv.pt _ N18) rfl rfl (by decide) ⟨_, rfl, br_true rfl ?_⟩
  have N19 := N18.new (t := T_uint8) (cs := #[(.int .u8 1), (.int .u8 2), (.int .u8 3), (.int .u8 9)]) (xs := nV [1, 2, 3, 9])
  generalize Array.size h18 = b19 at N19 ⊢
  generalize Array.push h18 _ = h19 at N19 ⊢
  refine keepBytes_spec (xs := [1, 2, 3, 9]) (ys := [1, 2, 3, 9]) (N19.m2.rd) (Gv.pt _ N19) rfl rfl (by decide) ⟨_, rfl, br_true rfl ?_⟩
  -- 0 pt 1 pt 2 own17 3 disk x 4 pt 5 own14 6 disk p
  refine Steps_hs (N19.m6) ⟨_, rfl, ?_⟩
  rw [c9]
  exact kk h19 (N19.sel 7 [])
end Go.Proofs.Ytkogmkajhjmkeaa

set_option maxRecDepth 20000
set_option linter.unusedVariables false
set_option linter.unusedSimpArgs false
namespace Go.Proofs.Ytkogmkajhjmkeaa
open Go Go.HW
variable {h : Heap} {L : List Assn} {Q : Value → Heap → Prop} {p s : Nat} {d : DS} {F : List (Nat × Obj)}
/-- A call of a script. -/
structure Op where
  k : Int
  A : Nm
  To : Nm
  b : OA
  bc : Nat
  bs : List Nat
  N : Int
  c : OA
  cc : Nat
  cs : List Int
def opV (o : Op) : List Value := [.int .i64 o.k, .string o.A, .string o.To, .slice o.b o.bs.length o.bc, .int .i64 o.N, .slice o.c o.cs.length o.cc]
theorem opV_len (o : Op) : (opV o).length = 6 := rfl
theorem opV_one (o : Op) : ∀ x ∈ opV o, oneC x = true := by
  intro x hx; simp [opV] at hx; rcases hx with rfl | rfl | rfl | rfl | rfl | rfl <;> rfl
structure OpOk (L : List Assn) (o : Op) : Prop where
  gb : Gv L o.b (nV o.bs)
  nb : o.b = none → o.bs.length = 0
  gc : Gv L o.c (zV o.cs)
  nc : o.c = none → o.cc = 0
  lc : o.cs.length ≤ o.cc
  n : o.N < 2 ^ 63
  cs : I64 o.cs
structure OpSm (o : Op) : Prop where
  b : o.bs.length ≤ 65536
  c : o.cs.length ≤ 1000
  a : o.A.size ≤ 65536
  t : o.To.size ≤ 65536
/-- A call of a script, done. -/
def opr (d : DS) (o : Op) : DS :=
  if o.k = 1 then (d.create o.A).1 else if o.k = 2 then (d.append o.A o.bs).1 else if o.k = 3 then (d.sync o.A).1 else if o.k = 4 then (d.rename o.A o.To).1
  else if o.k = 5 then (d.remove o.A).1 else if o.k = 6 then d.syncdir.1 else if o.k = 7 then d else if o.k = 8 then (d.stop o.N).1 else if o.k = 9 then d.crash o.cs else d
theorem DI.opr (hd : DI d) {o : Op} (hn : o.N < 2 ^ 63) : DI (opr d o) := by
  unfold Go.Proofs.Ytkogmkajhjmkeaa.opr
  split; exact hd.create _
  split; exact hd.append _ _
  split; exact hd.sync _
  split; exact hd.rename _ _
  split; exact hd.remove _
  split; exact hd.syncdir
  split; exact hd
  split; exact hd.stop hn
  split; exact hd.crash _
  exact hd
theorem opr_steps (o : Op) : (opr d o).steps ≤ d.steps + 1 := by
  unfold opr
  split; exact create_steps _
  split; exact append_steps _ _
  split; exact sync_steps _
  split; exact rename_steps _ _
  split; exact remove_steps _
  split; exact syncdir_steps
  split; exact Nat.le_succ _
  split; (rw [stop_steps]; exact Nat.le_succ _)
  split; exact Nat.le_succ _
  exact Nat.le_succ _
theorem lawstep_hs {o : Op} (ok : OpOk L o) (sm : OpSm o) (hd : DI d) (hb : d.steps < 2 ^ 30) (H : Hs h (diskA p d :: refA s d F :: frz F :: L))
    (kk : ∀ h' F', Le F F' → Hs h' (diskA p (opr d o) :: refA s (opr d o) F' :: frz F' :: L) → Q (.bool true) h') :
    SpecH PP F_law09_step [.pointer (some ⟨p, 0, none⟩), .pointer (some ⟨s, 0, none⟩), .agg #[.int .i64 o.k, .string o.A, .string o.To, .slice o.b o.bs.length o.bc, .int .i64 o.N, .slice o.c o.cs.length o.cc]] h Q := by
  refine law09_step.door ?_
  have hA : o.A.size < 2 ^ 60 := by have := sm.a; omega
  have hT : o.To.size < 2 ^ 60 := by have := sm.t; omega
  have hB := sm.b
  have hC := sm.c
  have refl : Le F F := fun x hx => hx
  have H1 := H.new (t := T_haversacklaw09_Op) (cs := #[.int .i64 o.k, .string o.A, .string o.To, .slice o.b o.bs.length o.bc, .int .i64 o.N, .slice o.c o.cs.length o.cc]) (xs := opV o)
  dsimp only
  generalize Array.size h = k at H1 ⊢
  generalize Array.push h _ = h1 at H1 ⊢
  have fin : ∀ {h3 : Heap} {d' : DS} (c : Int), opr d o = d' → Hs h3 (refA s d' F :: diskA p d' :: pt k T_haversacklaw09_Op (opV o) :: frz F :: L) → Q (.bool (c == c)) h3 := by
    intro h3 d' c e H
    subst e
    rw [beq_self_eq_true]
    exact kk h3 F refl (H.sel 4 [1, 0, 3])
  refine ⟨_, H1.cell (off := 0) rfl, ?_⟩
  by_cases q1 : o.k = 1
  · have er : opr d o = (d.create o.A).1 := by unfold opr; rw [if_pos q1]
    rw [q1]
    refine br_true rfl ⟨_, H1.cell (off := 1) rfl, ?_⟩
    repeat' first
      | exact trivial
      | refine And.intro ?_ ?_
      | refine ⟨_, H1.cell (off := 1) rfl, ?_⟩
      | refine Create_hs hd (by omega) hA H1.m1 fun h2 H2 => ⟨_, rfl, ?_⟩
      | refine ⟨_, H2.m1.cell (off := 1) rfl, ?_⟩
      | exact RCreate_hs hd (by omega) hA H2.m2 fun h3 H3 => ⟨_, rfl, fin _ er H3⟩
  rw [show (o.k == 1) = false by simpa using q1]
  refine br_false rfl ?_
  by_cases q2 : o.k = 2
  · have er : opr d o = (d.append o.A o.bs).1 := by unfold opr; rw [if_neg q1, if_pos q2]
    rw [er] at kk
    rw [q2]
    refine br_true rfl ⟨_, _, _, H1.cell (off := 3) rfl, ?_⟩
    refine Lend_spec (xs := o.bs) (ok.gb _ (H1.sel 4 [])) rfl (by omega) ok.nb H1 (fun h2 b H2 => ⟨_, _, _, rfl, _, H2.m1.cell (off := 1) rfl, ?_⟩) ok.gb.cons.cons.cons.cons
    refine Append_hs (bs := o.bs) hd (by omega) Gv_lent rfl (by omega) (fun e => nomatch e) (H2.m2) fun h3 H3 => ⟨_, rfl, _, _, _, H3.m2.cell (off := 3) rfl, ?_⟩
    -- 0 disk 1 lent 2 pt 3 ref 4 frz
    refine Back_spec (xs := o.bs) (ok.gb.cons.cons.cons.cons) rfl (by omega) (H3.m1) fun h4 H4 => ⟨_, rfl, br_true rfl ⟨_, H4.m1.cell (off := 1) rfl, _, _, _, H4.m1.cell (off := 3) rfl, ?_⟩⟩
    -- 0 disk 1 pt 2 ref 3 frz
    refine RAppend_hs (bs := o.bs) hd (by omega) (ok.gb.cons.cons) rfl (by omega) ok.nb (H4.sel 4 [2, 3, 0, 1]) fun h5 F' hF' H5 => ⟨_, rfl, ?_⟩
    rw [beq_self_eq_true]
    exact kk h5 F' hF' (H5.sel 4 [2, 0, 1])
  rw [show (o.k == 2) = false by simpa using q2]
  refine br_false rfl ?_
  by_cases q3 : o.k = 3
  · have er : opr d o = (d.sync o.A).1 := by unfold opr; rw [if_neg q1, if_neg q2, if_pos q3]
    rw [q3]
    refine br_true rfl ⟨_, H1.cell (off := 1) rfl, ?_⟩
    repeat' first
      | exact trivial
      | refine And.intro ?_ ?_
      | refine ⟨_, H1.cell (off := 1) rfl, ?_⟩
      | refine Sync_hs hd (by omega) H1.m1 fun h2 H2 => ⟨_, rfl, ?_⟩
      | refine ⟨_, H2.m1.cell (off := 1) rfl, ?_⟩
      | exact RSync_hs hd (by omega) H2.m2 fun h3 H3 => ⟨_, rfl, fin _ er H3⟩
  rw [show (o.k == 3) = false by simpa using q3]
  refine br_false rfl ?_
  by_cases q4 : o.k = 4
  · have er : opr d o = (d.rename o.A o.To).1 := by unfold opr; rw [if_neg q1, if_neg q2, if_neg q3, if_pos q4]
    rw [q4]
    refine br_true rfl ⟨_, H1.cell (off := 1) rfl, _, H1.cell (off := 2) rfl, ?_⟩
    repeat' first
      | exact trivial
      | refine And.intro ?_ ?_
      | refine ⟨_, H1.cell (off := 1) rfl, ?_⟩
      | refine ⟨_, H1.cell (off := 2) rfl, ?_⟩
      | refine Rename_hs hd (by omega) hT H1.m1 fun h2 H2 => ⟨_, rfl, ?_⟩
      | refine ⟨_, H2.m1.cell (off := 1) rfl, ?_⟩
      | refine ⟨_, H2.m1.cell (off := 2) rfl, ?_⟩
      | exact RRename_hs hd (by omega) hT H2.m2 fun h3 H3 => ⟨_, rfl, fin _ er H3⟩
  rw [show (o.k == 4) = false by simpa using q4]
  refine br_false rfl ?_
  by_cases q5 : o.k = 5
  · have er : opr d o = (d.remove o.A).1 := by unfold opr; rw [if_neg q1, if_neg q2, if_neg q3, if_neg q4, if_pos q5]
    rw [q5]
    refine br_true rfl ⟨_, H1.cell (off := 1) rfl, ?_⟩
    repeat' first
      | exact trivial
      | refine And.intro ?_ ?_
      | refine ⟨_, H1.cell (off := 1) rfl, ?_⟩
      | refine Remove_hs hd (by omega) H1.m1 fun h2 H2 => ⟨_, rfl, ?_⟩
      | refine ⟨_, H2.m1.cell (off := 1) rfl, ?_⟩
      | exact RRemove_hs hd (by omega) H2.m2 fun h3 H3 => ⟨_, rfl, fin _ er H3⟩
  rw [show (o.k == 5) = false by simpa using q5]
  refine br_false rfl ?_
  by_cases q6 : o.k = 6
  · have er : opr d o = d.syncdir.1 := by unfold opr; rw [if_neg q1, if_neg q2, if_neg q3, if_neg q4, if_neg q5, if_pos q6]
    rw [q6]
    refine br_true rfl ?_
    refine SyncDir_hs hd (by omega) H1.m1 fun h2 H2 => ⟨_, rfl, ?_⟩
    exact RSyncDir_hs hd (by omega) H2.m2 fun h3 H3 => ⟨_, rfl, fin _ er H3⟩
  rw [show (o.k == 6) = false by simpa using q6]
  refine br_false rfl ?_
  by_cases q7 : o.k = 7
  · have er : opr d o = d := by unfold opr; rw [if_neg q1, if_neg q2, if_neg q3, if_neg q4, if_neg q5, if_neg q6, if_pos q7]
    rw [er] at kk
    rw [q7]
    refine br_true rfl ⟨_, H1.cell (off := 1) rfl, ?_⟩
    refine Read_hs hd H1.m1 fun h2 a2 c2 H2 => ⟨_, _, _, _, rfl, _, H2.m2.cell (off := 1) rfl, ?_⟩
    -- 0 own 1 disk 2 pt 3 ref 4 frz
    refine RRead_hs (F := F) hd (H2.sel 5 [3, 4, 0, 1, 2]) (by omega) fun a3 c3 g3 h3n h3c => ⟨_, _, _, _, rfl, ?_⟩
    refine br_true (by simp) ?_
    have hrl : (d.read o.A).1.length ≤ 4194304 := by
      unfold DS.read; split
      · simp
      · split
        · simp
        · exact (hd.fl_ok _).2
    refine keepBytes_spec H2.rd (g3 _ (Hs.one H2.m4)) rfl rfl (by omega) ⟨_, rfl, ?_⟩
    rw [decide_eq_true rfl]
    exact kk h2 F refl (H2.sel 5 [1, 3, 4])
  rw [show (o.k == 7) = false by simpa using q7]
  refine br_false rfl ?_
  by_cases q8 : o.k = 8
  · have er : opr d o = (d.stop o.N).1 := by unfold opr; rw [if_neg q1, if_neg q2, if_neg q3, if_neg q4, if_neg q5, if_neg q6, if_neg q7, if_pos q8]
    rw [q8]
    refine br_true rfl ⟨_, H1.cell (off := 4) rfl, ?_⟩
    repeat' first
      | exact trivial
      | refine And.intro ?_ ?_
      | refine ⟨_, H1.cell (off := 4) rfl, ?_⟩
      | refine Stop_hs ok.n H1.m1 fun h2 H2 => ⟨_, rfl, ?_⟩
      | refine ⟨_, H2.m1.cell (off := 4) rfl, ?_⟩
      | exact RStop_hs ok.n H2.m2 fun h3 H3 => ⟨_, rfl, fin _ er H3⟩
  rw [show (o.k == 8) = false by simpa using q8]
  refine br_false rfl ?_
  by_cases q9 : o.k = 9
  · have er : opr d o = d.crash o.cs := by unfold opr; rw [if_neg q1, if_neg q2, if_neg q3, if_neg q4, if_neg q5, if_neg q6, if_neg q7, if_neg q8, if_pos q9]
    rw [er] at kk
    rw [q9]
    refine br_true rfl ⟨_, _, _, H1.cell (off := 5) rfl, ?_⟩
    -- 0 pt 1 disk 2 ref 3 frz
    refine RCrash_hs (cs := o.cs) hd (by omega) (ok.gc.cons.cons) rfl (by omega) ok.cs (H1.sel 4 [2, 3, 0, 1]) fun h2 F' hF' H2 => ⟨rfl, _, _, _, H2.m2.cell (off := 5) rfl, ?_⟩
    -- 0 ref 1 frz 2 pt 3 disk
    refine Crash_hs (cs := o.cs) hd (by omega) (ok.gc.cons.cons.cons) rfl ok.lc ok.nc ok.cs (H2.sel 4 [0, 1, 2]) (H2.sel 4 [3, 0, 1, 2]) fun h3 H3 => ⟨_, rfl, ?_⟩
    exact kk h3 F' hF' (H3.sel 4 [0, 1, 2])
  rw [show (o.k == 9) = false by simpa using q9]
  refine br_false rfl ?_
  have er : opr d o = d := by unfold opr; rw [if_neg q1, if_neg q2, if_neg q3, if_neg q4, if_neg q5, if_neg q6, if_neg q7, if_neg q8, if_neg q9]
  rw [er] at kk
  exact kk h1 F refl (H1.sel 4 [1, 2, 3])
end Go.Proofs.Ytkogmkajhjmkeaa

/- Maps of the model, as lists of pairs without a key twice. -/
import Derived.Test.YtcdifhgocjjbpaaHwNat
set_option linter.unusedVariables false
set_option linter.unusedSimpArgs false
set_option linter.unusedSectionVars false
namespace Go.HW
open Go

section
variable {α β : Type} [DecidableEq α]
def mget (l : List (α × β)) (k : α) : Option β := (l.find? fun x => decide (x.1 = k)).map (·.2)
def mset : List (α × β) → α → β → List (α × β)
  | [], k, v => [(k, v)]
  | x :: l, k, v => if x.1 = k then (k, v) :: l else x :: mset l k v
def mdel (l : List (α × β)) (k : α) : List (α × β) := l.filter fun x => !decide (x.1 = k)
theorem mget_nil (k : α) : mget ([] : List (α × β)) k = none := rfl
theorem mget_cons (x : α × β) (l : List (α × β)) (k : α) : mget (x :: l) k = if x.1 = k then some x.2 else mget l k := by
  unfold mget; rw [List.find?_cons]; by_cases h : x.1 = k <;> simp [h]
theorem mget_mset (l : List (α × β)) (k : α) (v : β) (j : α) : mget (mset l k v) j = if k = j then some v else mget l j := by
  induction l with
  | nil => simp [mset, mget_cons, mget_nil]
  | cons x l ih =>
    by_cases h : x.1 = k
    · subst h; simp [mset, mget_cons]
      split <;> simp_all
    · simp only [mset, if_neg h, mget_cons, ih]
      by_cases h2 : x.1 = j
      · subst h2; simp [Ne.symm h]
      · simp [h2]
theorem mget_mdel (l : List (α × β)) (k j : α) : mget (mdel l k) j = if k = j then none else mget l j := by
  induction l with
  | nil => simp [mdel, mget_nil]
  | cons x l ih =>
    unfold mdel at ih ⊢
    rw [List.filter_cons]
    by_cases h : x.1 = k
    · subst h
      simp only [decide_true, Bool.not_true, Bool.false_eq_true, if_false, ih, mget_cons]
      split <;> simp_all
    · simp only [decide_eq_false h, Bool.not_false, if_true, mget_cons, ih]
      by_cases h2 : x.1 = j
      · subst h2; simp [Ne.symm h]
      · simp [h2]
theorem keys_mset (l : List (α × β)) (k : α) (v : β) : (mset l k v).map (·.1) = if k ∈ l.map (·.1) then l.map (·.1) else l.map (·.1) ++ [k] := by
  induction l with
  | nil => simp [mset]
  | cons x l ih =>
    by_cases h : x.1 = k
    · subst h; simp [mset]
    · simp only [mset, if_neg h, List.map_cons, ih, List.mem_cons, Ne.symm h, false_or]
      split <;> simp
theorem nodup_mset {l : List (α × β)} (h : (l.map (·.1)).Nodup) (k : α) (v : β) : ((mset l k v).map (·.1)).Nodup := by
  rw [keys_mset]
  split
  · exact h
  · rename_i hk
    rw [List.nodup_append]
    exact ⟨h, by simp, fun a ha b hb => by simp at hb; subst hb; rintro rfl; exact hk ha⟩
theorem nodup_mdel {l : List (α × β)} (h : (l.map (·.1)).Nodup) (k : α) : ((mdel l k).map (·.1)).Nodup :=
  h.sublist (List.Sublist.map _ List.filter_sublist)
theorem mget_none {l : List (α × β)} {k : α} : mget l k = none ↔ k ∉ l.map (·.1) := by
  induction l with
  | nil => simp [mget_nil]
  | cons x l ih =>
    rw [mget_cons]
    by_cases h : x.1 = k
    · simp [h]
    · simp [h, ih, Ne.symm h]
theorem mget_mem {l : List (α × β)} {k : α} {v : β} (h : mget l k = some v) : (k, v) ∈ l := by
  induction l with
  | nil => simp [mget_nil] at h
  | cons x l ih =>
    rw [mget_cons] at h
    split at h
    · rename_i hk; cases h; subst hk; simp
    · exact List.mem_cons_of_mem _ (ih h)
theorem mget_of_mem {l : List (α × β)} (hn : (l.map (·.1)).Nodup) {k : α} {v : β} (h : (k, v) ∈ l) : mget l k = some v := by
  induction l with
  | nil => simp at h
  | cons x l ih =>
    rw [mget_cons]
    simp only [List.map_cons, List.nodup_cons] at hn
    rcases List.mem_cons.1 h with rfl | h
    · simp
    · rw [if_neg]
      · exact ih hn.2 h
      · intro e
        exact hn.1 (List.mem_map.2 ⟨(k, v), h, e.symm⟩)
end

theorem bytes_beq (a b : ByteArray) : (a == b) = decide (a = b) := by
  cases a with | mk x => cases b with | mk y =>
    show (x == y) = _
    by_cases h : x = y
    · subst h; simp
    · simp [h]
/-- Keys of one kind. -/
structure Keys (P : Program) (t : TypeId) {α : Type} [DecidableEq α] (κ : α → Value) : Prop where
  chk : ∀ (b : Bool) (a : α) (K : Unit → Heap → Prop) (h : Heap), K () h → hwp P (Instr.checkKey b 10000 t (κ a)) K h
  find : ∀ (k : α) (es : List MapEntry) (ks : List α), es.map (·.key) = ks.map κ → ∀ (K : Option (Nat × Value) → Heap → Prop) (h : Heap), K ((ks.findIdx? fun x => decide (x = k)).bind fun j => (es[j]?).map fun e => (j, e.val)) h → hwp P (Instr.findKey t (κ k) es) K h
  bits : ∀ a, Instr.sameBits 10000 (κ a) (κ a) = true
theorem findNow_any {α : Type} [DecidableEq α] {κ : α → Value} {d : TypeDesc} (hd : ∀ a b, Instr.sameNow d (κ a) (κ b) = some (decide (a = b))) (k : α) : ∀ (es : List MapEntry) (ks : List α) (i : Nat), es.map (·.key) = ks.map κ →
    Instr.findNow d (κ k) es i = some ((ks.findIdx? fun x => decide (x = k)).bind fun j => (es[j]?).map fun e => (i + j, e.val))
  | [], ks, i, h => by cases ks with | nil => rfl | cons x ks => simp at h
  | e :: es, [], i, h => by simp at h
  | e :: es, x :: ks, i, h => by
    simp only [List.map_cons, List.cons.injEq] at h
    simp only [Instr.findNow, h.1, hd]
    by_cases q : k = x
    · subst q; simp [List.findIdx?_cons]
    · have q' : ¬ x = k := fun h => q h.symm
      simp only [decide_eq_false q]
      rw [findNow_any hd k es ks (i + 1) h.2, List.findIdx?_cons, decide_eq_false q']
      cases hf : ks.findIdx? fun x => decide (x = k) with
      | none => simp
      | some j => simp; cases es[j]? <;> simp; omega
theorem Keys.of_now {P : Program} {t : TypeId} {α : Type} [DecidableEq α] {κ : α → Value} {d : TypeDesc} (hu : P.underlying t = some d) (hd : ∀ a b, Instr.sameNow d (κ a) (κ b) = some (decide (a = b)))
    (hc : ∀ (b : Bool) (a : α) (K : Unit → Heap → Prop) (h : Heap), K () h → hwp P (Instr.checkKey b 10000 t (κ a)) K h) (hb : ∀ a, Instr.sameBits 10000 (κ a) (κ a) = true) : Keys P t κ where
  chk := hc
  bits := hb
  find k es ks he K h H := by
    unfold Instr.findKey
    refine (hwp_bind' _ _ _ _).2 ((hwp_underlying hu).2 ?_)
    rw [findNow_any hd k es ks 0 he]
    simp only [Nat.zero_add]; exact H
theorem Keys.str {P : Program} {t : TypeId} (h : P.underlying t = some .string) : Keys P t Value.string :=
  .of_now h (fun a b => by simp only [Instr.sameNow, bytes_beq]) (fun b a K g k => by
    rw [show (10000 : Nat) = 9999 + 1 from rfl]; unfold Instr.checkKey; exact (hwp_bind' _ _ _ _).2 ((hwp_underlying h).2 k))
    (fun a => by rw [show (10000 : Nat) = 9999 + 1 from rfl]; simp only [Instr.sameBits, bytes_beq, decide_true])
theorem Keys.int {P : Program} {t : TypeId} {k : IntKind} (h : P.underlying t = some (.int k)) : Keys P t (Value.int k) :=
  .of_now h (fun a b => by simp only [Instr.sameNow, if_true]; by_cases e : a = b <;> simp [e]) (fun b a K g kk => by
    rw [show (10000 : Nat) = 9999 + 1 from rfl]; unfold Instr.checkKey; exact (hwp_bind' _ _ _ _).2 ((hwp_underlying h).2 kk))
    (fun a => by rw [show (10000 : Nat) = 9999 + 1 from rfl]; simp only [Instr.sameBits, beq_self_eq_true, Bool.and_self])
/-- Keys that are structs of plain values. -/
theorem Keys.plain {P : Program} {t : TypeId} {α : Type} [DecidableEq α] {κ : α → Value} {fs : Array Field} (hu : P.underlying t = some (.struct fs)) (he : ∀ a b, eqv P 6 t (κ a) (κ b) = some (decide (a = b)))
    (hc : ∀ (b : Bool) (a : α), runPure P (Instr.checkKey b 10000 t (κ a)) = some ()) (hb : ∀ a, Instr.sameBits 10000 (κ a) (κ a) = true) : Keys P t κ where
  chk b a K h H := hwp_runPure (hc b a) H
  bits := hb
  find k es ks hes K h H := by
    unfold Instr.findKey
    refine (hwp_bind' _ _ _ _).2 ((hwp_underlying hu).2 ?_)
    have now : Instr.findNow (.struct fs) (κ k) es 0 = if es = [] then some none else none := by
      cases es with
      | nil => rfl
      | cons e es => simp [Instr.findNow, Instr.sameNow]
    rw [now]
    by_cases e0 : es = []
    · rw [if_pos e0]
      subst e0
      cases ks with
      | nil => exact H
      | cons x ks => simp at hes
    · rw [if_neg e0]
      have go : ∀ (es : List MapEntry) (ks : List α) (i : Nat) (K : Option (Nat × Value) → Heap → Prop), es.map (·.key) = ks.map κ → K ((ks.findIdx? fun x => decide (x = k)).bind fun j => (es[j]?).map fun e => (i + j, e.val)) h → hwp P (Instr.findAsking t (κ k) es i) K h := by
        intro es
        induction es with
        | nil => intro ks i K h1 H; cases ks with
          | nil => exact H
          | cons x ks => simp at h1
        | cons e es ih =>
          intro ks i K h1 H
          cases ks with
          | nil => simp at h1
          | cons x ks =>
            simp only [List.map_cons, List.cons.injEq] at h1
            unfold Instr.findAsking
            refine (hwp_bind' _ _ _ _).2 ?_
            rw [h1.1]
            refine eqv_ok 6 t (κ k) (κ x) _ (he k x) Op.maxDepth (by decide) _ _ ?_
            by_cases q : k = x
            · subst q
              simp only [decide_true, if_true]
              show K (some (i, e.val)) h
              simpa [List.findIdx?_cons] using H
            · have q' : ¬ x = k := fun h => q h.symm
              simp only [decide_eq_false q, Bool.false_eq_true, if_false]
              refine ih ks (i + 1) K h1.2 ?_
              rw [List.findIdx?_cons, decide_eq_false q'] at H
              cases hf : ks.findIdx? fun x => decide (x = k) with
              | none => rw [hf] at H; simpa using H
              | some j =>
                rw [hf] at H
                simp only [Bool.false_eq_true, if_false, Option.map_some, Option.bind_some, List.getElem?_cons_succ] at H ⊢
                rw [show i + 1 + j = i + (j + 1) by omega]; exact H
      refine go es ks 0 K hes ?_
      simpa using H

section
variable {α β : Type} [DecidableEq α] {κ : α → Value} {ν : β → Value} {P : Program} {t kt et : TypeId}
/-- The entries of a map: pairs, each with the time it came up. -/
def entsOf (κ : α → Value) (ν : β → Value) (l : List (α × β)) (bs : List Nat) : List MapEntry := List.zipWith (fun x b => ⟨κ x.1, ν x.2, b⟩) l bs
def mp (κ : α → Value) (ν : β → Value) (r : Nat) (l : List (α × β)) : Assn := fun m => ∃ (bs : List Nat) (clock : Nat), (bs.length = l.length ∧ bs.Nodup ∧ (∀ b ∈ bs, b < clock) ∧ (l.map (·.1)).Nodup) ∧ m r = some (.map (entsOf κ ν l bs).toArray clock)
theorem ents_len {l : List (α × β)} {bs : List Nat} (h : bs.length = l.length) : (entsOf κ ν l bs).length = l.length := by simp [entsOf, h]
theorem find_of {k : α} {l : List (α × β)} : (∃ j, ∃ hj : j < l.length, (l.findIdx? fun x => decide (x.1 = k)) = some j ∧ l[j].1 = k ∧ mget l k = some l[j].2 ∧ (∀ v, mset l k v = l.set j (k, v))) ∨ ((l.findIdx? fun x => decide (x.1 = k)) = none ∧ mget l k = none ∧ (∀ v, mset l k v = l ++ [(k, v)])) := by
  induction l with
  | nil => right; simp [mget_nil, mset]
  | cons x l ih =>
    by_cases e : x.1 = k
    · left; exact ⟨0, by simp, by simp [List.findIdx?_cons, e], by simpa using e, by simp [mget_cons, e], fun v => by simp [mset, e]⟩
    · rcases ih with ⟨j, hj, h1, h2, h3, h4⟩ | ⟨h1, h2, h3⟩
      · left; exact ⟨j + 1, by simpa using hj, by simp [List.findIdx?_cons, e, h1], by simpa using h2, by simp [mget_cons, e, h3], fun v => by simp [mset, e, h4]⟩
      · right; exact ⟨by simp [List.findIdx?_cons, e, h1], by simp [mget_cons, e, h2], fun v => by simp [mset, e, h3]⟩
/-- A key is sought. -/
theorem hwp_findKey (Ky : Keys P kt κ) (k : α) {l : List (α × β)} {bs : List Nat} (hb : bs.length = l.length) {K : Option (Nat × Value) → Heap → Prop} {h : Heap}
    (H : K ((l.findIdx? fun x => decide (x.1 = k)).bind fun j => (l[j]?).map fun x => (j, ν x.2)) h) : hwp P (Instr.findKey kt (κ k) (entsOf κ ν l bs)) K h := by
  have hk : ∀ (l : List (α × β)) (bs : List Nat), bs.length = l.length → (entsOf κ ν l bs).map (·.key) = (l.map (·.1)).map κ := by
    intro l
    induction l with
    | nil => intro bs _; rfl
    | cons x l ih => intro bs hb; cases bs with
      | nil => simp at hb
      | cons b bs =>
        have := ih bs (by simpa using hb)
        simp only [entsOf, List.zipWith_cons_cons, List.map_cons] at this ⊢
        rw [this]
  refine Ky.find k _ (l.map (·.1)) (hk l bs hb) K h ?_
  rw [List.findIdx?_map]
  have e : (l.findIdx? ((fun x => decide (x = k)) ∘ fun x => x.1)) = l.findIdx? fun x => decide (x.1 = k) := rfl
  rw [e]
  cases hf : l.findIdx? fun x => decide (x.1 = k) with
  | none => rw [hf] at H; exact H
  | some j =>
    rw [hf] at H
    simp only [Option.bind_some] at H ⊢
    have : (entsOf κ ν l bs)[j]?.map (fun e => (j, e.val)) = (l[j]?).map fun x => (j, ν x.2) := by
      unfold entsOf
      rw [List.getElem?_zipWith]
      cases h1 : l[j]? with
      | none => rfl
      | some x =>
        have hj : j < bs.length := by rw [hb]; exact (List.getElem?_eq_some_iff.1 h1).1
        rw [List.getElem?_eq_getElem hj]; rfl
    rw [this]; exact H
theorem zero_of {e : TypeId} {z : Value} (i : (P.info? e).bind (·.zero) = some z) {K : Value → Heap → Prop} {h : Heap} (H : K z h) : hwp P (Go.zeroValue e) K h := by
  cases hi : P.info? e with
  | none => rw [hi] at i; cases i
  | some inf =>
    rw [hi] at i
    simp only [Option.bind_some] at i
    simp only [Go.zeroValue, Go.typeInfo, program, bind, hwp_bind, hwp, hi, pure, i]; exact H
variable {h : Heap} {L : List Assn} {r : Nat} {l : List (α × β)}
theorem Hs.mp_obj (H : Hs h (mp κ ν r l :: L)) : ∃ bs clock, (bs.length = l.length ∧ bs.Nodup ∧ (∀ b ∈ bs, b < clock) ∧ (l.map (·.1)).Nodup) ∧ Hs h (ob r (.map (entsOf κ ν l bs).toArray clock) :: L) := by
  unfold mp at H
  simp only [Hs.ex, Hs.and] at H
  exact H
theorem Hs.mp_mk {bs : List Nat} {clock : Nat} (H : Hs h (ob r (.map (entsOf κ ν l bs).toArray clock) :: L)) (h1 : bs.length = l.length) (h2 : bs.Nodup) (h3 : ∀ b ∈ bs, b < clock) (h4 : (l.map (·.1)).Nodup) : Hs h (mp κ ν r l :: L) := by
  unfold mp; simp only [Hs.ex, Hs.and]; exact ⟨bs, clock, ⟨h1, h2, h3, h4⟩, H⟩
theorem Hs.mp_nodup (H : Hs h (mp κ ν r l :: L)) : (l.map (·.1)).Nodup := by obtain ⟨_, _, ⟨_, _, _, h4⟩, _⟩ := H.mp_obj; exact h4
theorem Hs.mp_new (H : Hs h L) : Hs (h.push (.map #[] 0)) (mp κ ν h.size ([] : List (α × β)) :: L) :=
  (H.push (.map #[] 0)).mp_mk (bs := []) rfl (by simp) (by simp) (by simp)
/-- A look-up with 'ok'. -/
theorem Hs.lookup2 (H : Hs h (mp κ ν r l :: L)) (hm : P.underlying t = some (.map kt et)) (Ky : Keys P kt κ) {z : Value} (hz : (P.info? et).bind (·.zero) = some z) (k : α) {K : Value → Heap → Prop}
    (kk : K (match mget l k with | some v => .tuple #[ν v, .bool true] | none => .tuple #[z, .bool false]) h) : hwp P (Instr.lookup t (.map (some r)) (κ k) true) K h := by
  obtain ⟨bs, clock, ⟨h1, h2, h3, h4⟩, H⟩ := H.mp_obj
  have hc := Ky.chk
  unfold Instr.lookup
  refine (hwp_bind' _ _ _ _).2 ((hwp_underlying hm).2 ?_)
  refine (hwp_bind' _ _ _ _).2 ?_
  refine ⟨_, H.get, rfl, ?_⟩
  show hwp P (Instr.checkKey _ 10000 kt (κ k) >>= _) K h
  refine (hwp_bind' _ _ _ _).2 (hc _ _ _ _ ?_)
  refine (hwp_bind' _ _ _ _).2 (hwp_findKey Ky k h1 ?_)
  rcases find_of (k := k) (l := l) with ⟨j, hj, f1, f2, f3, f4⟩ | ⟨f1, f2, f3⟩
  · rw [f3] at kk; rw [f1, Option.bind_some, List.getElem?_eq_getElem hj]; exact kk
  · rw [f2] at kk; rw [f1]; exact (hwp_bind' _ _ _ _).2 (zero_of hz kk)
/-- A look-up. -/
theorem Hs.lookup1 (H : Hs h (mp κ ν r l :: L)) (hm : P.underlying t = some (.map kt et)) (Ky : Keys P kt κ) {z : Value} (hz : (P.info? et).bind (·.zero) = some z) (k : α) {K : Value → Heap → Prop}
    (kk : K (match mget l k with | some v => ν v | none => z) h) : hwp P (Instr.lookup t (.map (some r)) (κ k) false) K h := by
  obtain ⟨bs, clock, ⟨h1, h2, h3, h4⟩, H⟩ := H.mp_obj
  have hc := Ky.chk
  unfold Instr.lookup
  refine (hwp_bind' _ _ _ _).2 ((hwp_underlying hm).2 ?_)
  refine (hwp_bind' _ _ _ _).2 ?_
  refine ⟨_, H.get, rfl, ?_⟩
  show hwp P (Instr.checkKey _ 10000 kt (κ k) >>= _) K h
  refine (hwp_bind' _ _ _ _).2 (hc _ _ _ _ ?_)
  refine (hwp_bind' _ _ _ _).2 (hwp_findKey Ky k h1 ?_)
  rcases find_of (k := k) (l := l) with ⟨j, hj, f1, f2, f3, f4⟩ | ⟨f1, f2, f3⟩
  · rw [f3] at kk; rw [f1, Option.bind_some, List.getElem?_eq_getElem hj]; exact kk
  · rw [f2] at kk; rw [f1]; exact (hwp_bind' _ _ _ _).2 (zero_of hz kk)
theorem ents_get {bs : List Nat} (hb : bs.length = l.length) {j : Nat} (hj : j < l.length) : (entsOf κ ν l bs)[j]? = some ⟨κ l[j].1, ν l[j].2, bs[j]⟩ := by
  simp [entsOf, List.getElem?_zipWith, hj, hb]
theorem modify_ents {bs : List Nat} (hb : bs.length = l.length) {j : Nat} (hj : j < l.length) (k : α) (v : β) :
    (entsOf κ ν l bs).toArray.modify j (fun e => { e with key := κ k, val := ν v }) = (entsOf κ ν (l.set j (k, v)) bs).toArray := by
  apply Array.ext_getElem?
  intro i
  rw [Array.getElem?_modify, List.getElem?_toArray, List.getElem?_toArray]
  by_cases hi : j = i
  · subst hi
    rw [if_pos rfl, ents_get hb hj, ents_get (by simpa using hb) (by simpa using hj)]
    simp
  · rw [if_neg hi]
    simp [entsOf, List.getElem?_zipWith, List.getElem?_set_ne hi]
/-- An entry is laid. -/
theorem Hs.mset (H : Hs h (mp κ ν r l :: L)) (hm : P.underlying t = some (.map kt et)) (Ky : Keys P kt κ) (k : α) (v : β) {x : Value} (hx : x = ν v := by rfl) {K : Heap → Prop}
    (kk : ∀ h', Hs h' (mp κ ν r (HW.mset l k v) :: L) → K h') : hwp P (Instr.mapUpdate t (.map (some r)) (κ k) x) (fun _ => K) h := by
  subst hx
  obtain ⟨bs, clock, ⟨h1, h2, h3, h4⟩, H⟩ := H.mp_obj
  have hc := Ky.chk
  unfold Instr.mapUpdate
  refine (hwp_bind' _ _ _ _).2 ((hwp_underlying hm).2 ?_)
  refine (hwp_bind' _ _ _ _).2 ⟨_, H.get, rfl, ?_⟩
  refine (hwp_bind' _ _ _ _).2 (hc _ _ _ _ ?_)
  refine (hwp_bind' _ _ _ _).2 (hwp_findKey Ky k h1 ?_)
  rcases find_of (k := k) (l := l) with ⟨j, hj, f1, f2, f3, f4⟩ | ⟨f1, f2, f3⟩
  · rw [f1]; simp only [Option.bind_some, List.getElem?_eq_getElem hj, Option.map_some]
    have hkey : hwp P (Instr.keyThatStays ((((entsOf κ ν l bs).toArray[j]?).map (·.key)).getD (κ k)) (κ k)) (fun v h' => v = κ k ∧ h' = h) h := by
      rw [List.getElem?_toArray, ents_get h1 hj, Option.map_some, Option.getD_some, f2]
      unfold Instr.keyThatStays
      rw [if_pos (Ky.bits k)]; exact ⟨rfl, rfl⟩
    refine (hwp_bind' _ _ _ _).2 (hwp_mono _ ?_ hkey)
    rintro _ _ ⟨rfl, rfl⟩
    refine ⟨⟨_, H.get, rfl, rfl⟩, kk _ ?_⟩
    rw [modify_ents h1 hj]
    rw [f4 v]
    refine (H.set _).mp_mk (by simpa using h1) h2 h3 ?_
    rw [← f4 v]; exact nodup_mset h4 k v
  · rw [f1]
    refine ⟨⟨_, H.get, rfl, rfl⟩, kk _ ?_⟩
    have e : (entsOf κ ν l bs).toArray.push ⟨κ k, ν v, clock⟩ = (entsOf κ ν (l ++ [(k, v)]) (bs ++ [clock])).toArray := by
      apply Array.toList_inj.1
      simp only [entsOf, Array.toList_push]
      rw [List.zipWith_append h1.symm]; simp
    rw [e, f3 v]
    refine (H.set _).mp_mk (by simp [h1]) ?_ ?_ ?_
    · rw [List.nodup_append]
      exact ⟨h2, by simp, fun a ha b hb => by simp at hb; subst hb; have := h3 a ha; omega⟩
    · intro b hb
      rcases List.mem_append.1 hb with hb | hb
      · have := h3 b hb; omega
      · simp at hb; omega
    · rw [← f3 v]; exact nodup_mset h4 k v
theorem mdel_erase {k : α} (hn : (l.map (·.1)).Nodup) {j : Nat} (hj : j < l.length) (e : l[j].1 = k) : mdel l k = l.eraseIdx j := by
  induction l generalizing j with
  | nil => simp at hj
  | cons x l ih =>
    simp only [List.map_cons, List.nodup_cons] at hn
    have rest : ∀ (l : List (α × β)), k ∉ l.map (·.1) → mdel l k = l := by
      intro l hl
      unfold mdel
      rw [List.filter_eq_self]
      intro y hy
      have : y.1 ≠ k := fun h => hl (List.mem_map.2 ⟨y, hy, h⟩)
      simp [this]
    cases j with
    | zero =>
      simp only [List.getElem_cons_zero] at e
      have : mdel (x :: l) k = mdel l k := by unfold mdel; rw [List.filter_cons]; simp [e]
      rw [this, rest l (e ▸ hn.1)]; simp
    | succ j =>
      simp only [List.getElem_cons_succ] at e
      have hj' : j < l.length := by simpa using hj
      have hx : x.1 ≠ k := fun h => hn.1 (List.mem_map.2 ⟨l[j], List.getElem_mem hj', by rw [e, h]⟩)
      have : mdel (x :: l) k = x :: mdel l k := by unfold mdel; rw [List.filter_cons]; simp [hx]
      rw [this, ih hn.2 hj' e]; simp
theorem mdel_none {k : α} (h : mget l k = none) : mdel l k = l := by
  unfold mdel
  rw [List.filter_eq_self]
  intro y hy
  have := mget_none.1 h
  have : y.1 ≠ k := fun h => this (List.mem_map.2 ⟨y, hy, h⟩)
  simp [this]
theorem zip_erase {γ δ ε : Type} (f : γ → δ → ε) : ∀ (l : List γ) (bs : List δ) (j : Nat), bs.length = l.length → (List.zipWith f l bs).eraseIdx j = List.zipWith f (l.eraseIdx j) (bs.eraseIdx j) := by
  intro l
  induction l with
  | nil => intro bs j h; simp
  | cons x l ih =>
    intro bs j h
    cases bs with
    | nil => simp at h
    | cons b bs =>
      cases j with
      | zero => simp
      | succ j => simp only [List.zipWith_cons_cons, List.eraseIdx_cons_succ]; rw [ih bs j (by simpa using h)]
/-- An entry is taken away. -/
theorem Hs.mdel (H : Hs h (mp κ ν r l :: L)) (hm : P.underlying t = some (.map kt et)) (Ky : Keys P kt κ) (k : α) {t2 ty : TypeId} {K : Value → Heap → Prop}
    (kk : ∀ h', Hs h' (mp κ ν r (HW.mdel l k) :: L) → K (.tuple #[]) h') : hwp P (Builtin.delete_ #[t, t2] ty #[.map (some r), κ k]) K h := by
  obtain ⟨bs, clock, ⟨h1, h2, h3, h4⟩, H⟩ := H.mp_obj
  have hc := Ky.chk
  unfold Builtin.delete_
  refine (hwp_bind' _ _ _ _).2 ((hwp_underlying hm).2 ?_)
  show hwp P (getObj r >>= _) K h
  refine (hwp_bind' _ _ _ _).2 ?_
  refine ⟨_, H.get, rfl, ?_⟩
  show hwp P (Instr.checkKey _ 10000 kt (κ k) >>= _) K h
  refine (hwp_bind' _ _ _ _).2 (hc _ _ _ _ ?_)
  refine (hwp_bind' _ _ _ _).2 (hwp_findKey Ky k h1 ?_)
  rcases find_of (k := k) (l := l) with ⟨j, hj, f1, f2, f3, f4⟩ | ⟨f1, f2, f3⟩
  · rw [f1]; simp only [Option.bind_some, List.getElem?_eq_getElem hj, Option.map_some]
    refine ⟨⟨_, H.get, rfl, rfl⟩, kk _ ?_⟩
    have e : (entsOf κ ν l bs).toArray.eraseIdxIfInBounds j = (entsOf κ ν (l.eraseIdx j) (bs.eraseIdx j)).toArray := by
      apply Array.toList_inj.1
      rw [Array.eraseIdxIfInBounds, dif_pos (by simpa [ents_len h1] using hj)]
      simp only [Array.toList_eraseIdx, entsOf]
      exact zip_erase _ l bs j h1
    rw [e, mdel_erase h4 hj f2]
    refine (H.set _).mp_mk ?_ (h2.sublist (List.eraseIdx_sublist ..)) (fun b hb => h3 b (List.mem_of_mem_eraseIdx hb)) (h4.sublist (List.Sublist.map _ (List.eraseIdx_sublist ..)))
    rw [List.length_eraseIdx, List.length_eraseIdx, h1]
  · rw [f1]
    refine ⟨⟨_, H.get, rfl, rfl⟩, kk _ ?_⟩
    rw [mdel_none f2]
    exact (H.set _).mp_mk h1 h2 h3 h4
/-- How many pairs there are. -/
theorem Hs.mlen (H : Hs h (mp κ ν r l :: L)) (hm : P.underlying t = some (.map kt et)) {ty : TypeId} {K : Value → Heap → Prop} (kk : K (.int .i64 (l.length : Nat)) h) : hwp P (Builtin.len_ #[t] ty #[.map (some r)]) K h := by
  obtain ⟨bs, clock, ⟨h1, h2, h3, h4⟩, H⟩ := H.mp_obj
  unfold Builtin.len_
  refine (hwp_bind' _ _ _ _).2 ((hwp_underlying hm).2 ?_)
  show hwp P (getObj r >>= _) K h
  refine (hwp_bind' _ _ _ _).2 ⟨_, H.get, rfl, ?_⟩
  show K (goInt ((entsOf κ ν l bs).toArray.size : Nat)) h
  have : (entsOf κ ν l bs).toArray.size = l.length := by simp [ents_len h1]
  rw [this]; exact kk
end
end Go.HW

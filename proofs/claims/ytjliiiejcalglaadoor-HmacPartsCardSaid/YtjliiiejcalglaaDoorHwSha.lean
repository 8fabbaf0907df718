/- The plain law of the digest: words, rounds, blocks, what stands behind the bytes. -/
set_option linter.unusedVariables false
set_option linter.unusedSimpArgs false
namespace Go.HW.Sha
abbrev W := BitVec 32
def rr (x : W) (n : Nat) : W := x >>> n ||| x <<< (32 - n)
def sg0 (x : W) : W := rr x 7 ^^^ rr x 18 ^^^ (x >>> 3)
def sg1 (x : W) : W := rr x 17 ^^^ rr x 19 ^^^ (x >>> 10)
def Sg0 (x : W) : W := rr x 2 ^^^ rr x 13 ^^^ rr x 22
def Sg1 (x : W) : W := rr x 6 ^^^ rr x 11 ^^^ rr x 25
def ch (e f g : W) : W := (e &&& f) ^^^ (~~~e &&& g)
def maj (a b c : W) : W := (a &&& b) ^^^ (a &&& c) ^^^ (b &&& c)
theorem ch_or (e f g : W) : (e &&& f) ||| (~~~e &&& g) = ch e f g := by
  unfold ch
  apply BitVec.eq_of_getLsbD_eq
  intro i hi
  simp only [BitVec.getLsbD_or, BitVec.getLsbD_xor, BitVec.getLsbD_and, BitVec.getLsbD_not]
  cases e.getLsbD i <;> cases f.getLsbD i <;> cases g.getLsbD i <;> simp [hi]
theorem maj_or (a b c : W) : (a &&& b) ||| (c &&& (a ||| b)) = maj a b c := by
  unfold maj
  apply BitVec.eq_of_getLsbD_eq
  intro i hi
  simp only [BitVec.getLsbD_or, BitVec.getLsbD_xor, BitVec.getLsbD_and]
  cases a.getLsbD i <;> cases b.getLsbD i <;> cases c.getLsbD i <;> rfl
structure S8 where
  a : W
  b : W
  c : W
  d : W
  e : W
  f : W
  g : W
  h : W
def rnd (s : S8) (k w : W) : S8 :=
  let t := s.h + Sg1 s.e + ch s.e s.f s.g + k + w
  let u := Sg0 s.a + maj s.a s.b s.c
  ⟨t + u, s.a, s.b, s.c, s.d + t, s.e, s.f, s.g⟩
def addS (x s : S8) : S8 := ⟨x.a + s.a, x.b + s.b, x.c + s.c, x.d + s.d, x.e + s.e, x.f + s.f, x.g + s.g, x.h + s.h⟩
def iv : S8 := ⟨0x6a09e667#32, 0xbb67ae85#32, 0x3c6ef372#32, 0xa54ff53a#32, 0x510e527f#32, 0x9b05688c#32, 0x1f83d9ab#32, 0x5be0cd19#32⟩
def ks : List W := [
  0x428a2f98#32, 0x71374491#32, 0xb5c0fbcf#32, 0xe9b5dba5#32, 0x3956c25b#32, 0x59f111f1#32, 0x923f82a4#32, 0xab1c5ed5#32,
  0xd807aa98#32, 0x12835b01#32, 0x243185be#32, 0x550c7dc3#32, 0x72be5d74#32, 0x80deb1fe#32, 0x9bdc06a7#32, 0xc19bf174#32,
  0xe49b69c1#32, 0xefbe4786#32, 0x0fc19dc6#32, 0x240ca1cc#32, 0x2de92c6f#32, 0x4a7484aa#32, 0x5cb0a9dc#32, 0x76f988da#32,
  0x983e5152#32, 0xa831c66d#32, 0xb00327c8#32, 0xbf597fc7#32, 0xc6e00bf3#32, 0xd5a79147#32, 0x06ca6351#32, 0x14292967#32,
  0x27b70a85#32, 0x2e1b2138#32, 0x4d2c6dfc#32, 0x53380d13#32, 0x650a7354#32, 0x766a0abb#32, 0x81c2c92e#32, 0x92722c85#32,
  0xa2bfe8a1#32, 0xa81a664b#32, 0xc24b8b70#32, 0xc76c51a3#32, 0xd192e819#32, 0xd6990624#32, 0xf40e3585#32, 0x106aa070#32,
  0x19a4c116#32, 0x1e376c08#32, 0x2748774c#32, 0x34b0bcb5#32, 0x391c0cb3#32, 0x4ed8aa4a#32, 0x5b9cca4f#32, 0x682e6ff3#32,
  0x748f82ee#32, 0x78a5636f#32, 0x84c87814#32, 0x8cc70208#32, 0x90befffa#32, 0xa4506ceb#32, 0xbef9a3f7#32, 0xc67178f2#32]
/-- The word at a place of a block. -/
def be4 (p : List Nat) (i : Nat) : W := BitVec.ofNat 32 (((p.getD (4 * i) 0 * 256 + p.getD (4 * i + 1) 0) * 256 + p.getD (4 * i + 2) 0) * 256 + p.getD (4 * i + 3) 0)
def first (p : List Nat) (n : Nat) : List W := (List.range n).map (be4 p)
def nxt (w : List W) : W := w.getD (w.length - 16) 0 + sg0 (w.getD (w.length - 15) 0) + w.getD (w.length - 7) 0 + sg1 (w.getD (w.length - 2) 0)
def grow : Nat → List W → List W
  | 0, w => w
  | n + 1, w => grow n (w ++ [nxt w])
@[irreducible] def sched (p : List Nat) : List W := grow 48 (first p 16)
def rounds (s : S8) : List (W × W) → S8
  | [] => s
  | x :: l => rounds (rnd s x.1 x.2) l
def blk (s : S8) (p : List Nat) : S8 := addS (rounds s (ks.zip (sched p))) s
/-- So many blocks. -/
def hb : Nat → S8 → List Nat → S8
  | 0, s, _ => s
  | n + 1, s, bs => hb n (blk s (bs.take 64)) (bs.drop 64)
def be8 (n : Nat) : List Nat := [n / 2 ^ 56 % 256, n / 2 ^ 48 % 256, n / 2 ^ 40 % 256, n / 2 ^ 32 % 256, n / 2 ^ 24 % 256, n / 2 ^ 16 % 256, n / 2 ^ 8 % 256, n % 256]
def nought (n : Nat) : Nat := (119 - n % 64) % 64
def padded (bs : List Nat) : List Nat := bs ++ [128] ++ List.replicate (nought bs.length) 0 ++ be8 (8 * bs.length)
def toB (w : W) : List Nat := [w.toNat / 2 ^ 24 % 256, w.toNat / 2 ^ 16 % 256, w.toNat / 2 ^ 8 % 256, w.toNat % 256]
def S8.l (s : S8) : List W := [s.a, s.b, s.c, s.d, s.e, s.f, s.g, s.h]
def out (s : S8) : List Nat := s.l.flatMap toB
def digest (bs : List Nat) : List Nat := out (hb ((padded bs).length / 64) iv (padded bs))
def pad64 (k : List Nat) : List Nat := k ++ List.replicate (64 - k.length) 0
def key (k : List Nat) : List Nat := pad64 (if 64 < k.length then digest k else k)
def mac (k b : List Nat) : List Nat := digest ((key k).map (· ^^^ 92) ++ digest ((key k).map (· ^^^ 54) ++ b))
theorem grow_len : ∀ (n : Nat) (w : List W), (grow n w).length = w.length + n := by
  intro n
  induction n with
  | zero => intro w; rfl
  | succ n ih => intro w; rw [grow, ih]; simp; omega
theorem grow_succ : ∀ (n : Nat) (w : List W), grow (n + 1) w = grow n w ++ [nxt (grow n w)] := by
  intro n
  induction n with
  | zero => intro w; rfl
  | succ n ih => intro w; rw [grow, ih, grow]
theorem first_len (p : List Nat) (n : Nat) : (first p n).length = n := by simp [first]
theorem first_succ (p : List Nat) (n : Nat) : first p (n + 1) = first p n ++ [be4 p n] := by simp [first, List.range_succ]
theorem sched_len (p : List Nat) : (sched p).length = 64 := by rw [sched, grow_len, first_len]
theorem rounds_app (l m : List (W × W)) : ∀ s, rounds s (l ++ m) = rounds (rounds s l) m := by
  induction l with
  | nil => intro s; rfl
  | cons x l ih => intro s; exact ih _
theorem hb_add : ∀ (m n : Nat) (s : S8) (bs : List Nat), hb (m + n) s bs = hb n (hb m s bs) (bs.drop (64 * m)) := by
  intro m
  induction m with
  | zero => intro n s bs; rw [Nat.zero_add]; rfl
  | succ m ih =>
    intro n s bs
    rw [show m + 1 + n = (m + n) + 1 by omega, hb, ih, hb, List.drop_drop, show 64 + 64 * m = 64 * (m + 1) by omega]
theorem hb_app : ∀ (n : Nat) (s : S8) (bs cs : List Nat), 64 * n ≤ bs.length → hb n s (bs ++ cs) = hb n s bs := by
  intro n
  induction n with
  | zero => intro s bs cs h; rfl
  | succ n ih =>
    intro s bs cs h
    rw [hb, hb, List.take_append_of_le_length (by omega), List.drop_append_of_le_length (by omega), ih _ _ _ (by rw [List.length_drop]; omega)]
theorem out_len (s : S8) : (out s).length = 32 := rfl
theorem toB_lt {w : W} {x : Nat} (h : x ∈ toB w) : x < 256 := by
  simp only [toB, List.mem_cons, List.not_mem_nil, or_false] at h
  omega
theorem out_lt {s : S8} {x : Nat} (h : x ∈ out s) : x < 256 := by
  obtain ⟨w, _, hx⟩ := List.mem_flatMap.1 h; exact toB_lt hx
theorem digest_len (bs : List Nat) : (digest bs).length = 32 := out_len _
theorem digest_lt {bs : List Nat} {x : Nat} (h : x ∈ digest bs) : x < 256 := out_lt h
theorem key_len (k : List Nat) : (key k).length = 64 := by
  unfold key pad64
  rw [List.length_append, List.length_replicate]
  split
  · rw [digest_len]
  · omega
theorem key_lt {k : List Nat} (h : ∀ x ∈ k, x < 256) : ∀ x ∈ key k, x < 256 := by
  intro x hx
  unfold key pad64 at hx
  rcases List.mem_append.1 hx with hx | hx
  · split at hx
    · exact digest_lt hx
    · exact h x hx
  · rw [(List.mem_replicate.1 hx).2]; decide
theorem nought_mod (n : Nat) : (n + 1 + nought n) % 64 = 56 := by unfold nought; omega
theorem padded_len (bs : List Nat) : (padded bs).length % 64 = 0 := by
  have := nought_mod bs.length
  simp only [padded, be8, List.length_append, List.length_replicate, List.length_cons, List.length_nil]
  omega
/-- A key that is wider by noughts, but not too wide, is the same key. -/
theorem key_wide {k : List Nat} {n : Nat} (h : k.length + n ≤ 64) : key (k ++ List.replicate n 0) = key k := by
  unfold key pad64
  rw [if_neg (by simp; omega), if_neg (by omega), List.append_assoc, List.length_append, List.length_replicate, List.replicate_append_replicate]
  congr 2; omega
theorem d0 : (digest []).take 4 = [227, 176, 196, 66] := by decide +kernel
theorem d1 : (digest [97]).take 4 = [202, 151, 129, 18] := by decide +kernel
theorem d3 : (digest [97, 98, 99]).take 4 = [186, 120, 22, 191] := by decide +kernel
theorem m0 : (mac [] []).take 4 = [182, 19, 103, 154] := by decide +kernel
end Go.HW.Sha

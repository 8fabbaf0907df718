/- Plain law of bytes as the digits of a number, the lowest first. -/
import Derived.Test.YtcdifhgocjjbpaaHwNat
set_option linter.unusedVariables false
set_option linter.unusedSimpArgs false
namespace Go.HW
open Go

/-- The first k bytes of a number. -/
def dig (N : Nat) : Nat → List Nat
  | 0 => []
  | k + 1 => dig N k ++ [N / 256 ^ k % 256]
theorem dig_len (N k : Nat) : (dig N k).length = k := by induction k with | zero => rfl | succ k ih => simp [dig, ih]
theorem dig_get {N k i : Nat} (h : i < k) : (dig N k)[i]? = some (N / 256 ^ i % 256) := by
  induction k with
  | zero => omega
  | succ k ih =>
    simp only [dig]
    rcases Nat.lt_or_ge i k with h1 | h1
    · rw [List.getElem?_append_left (by rw [dig_len]; exact h1), ih h1]
    · obtain rfl : i = k := by omega
      rw [List.getElem?_append_right (by rw [dig_len]; omega), dig_len]; simp
theorem dig_congr {N M k : Nat} (h : N % 256 ^ k = M % 256 ^ k) : dig N k = dig M k := by
  induction k with
  | zero => rfl
  | succ k ih =>
    have e : ∀ X : Nat, X % 256 ^ (k + 1) % 256 ^ k = X % 256 ^ k := fun X => Nat.mod_mod_of_dvd _ ⟨256, by rw [Nat.pow_succ]⟩
    have h1 : N % 256 ^ k = M % 256 ^ k := by rw [← e N, ← e M, h]
    have h2 : ∀ X : Nat, X / 256 ^ k % 256 = X % 256 ^ (k + 1) / 256 ^ k := fun X => by rw [Nat.pow_succ, Nat.mod_mul_right_div_self]
    simp only [dig, ih h1, h2, h]
theorem dig_lt {N k x : Nat} (h : x ∈ dig N k) : x < 256 := by
  obtain ⟨i, hi, rfl⟩ := List.getElem_of_mem h
  have := dig_get (N := N) (k := k) (i := i) (by simpa [dig_len] using hi)
  rw [List.getElem?_eq_getElem hi] at this
  rw [Option.some.inj this]; exact Nat.mod_lt _ (by decide)
/-- The number of bytes. -/
def val : List Nat → Nat
  | [] => 0
  | x :: l => x + 256 * val l
theorem val_app (l m : List Nat) : val (l ++ m) = val l + 256 ^ l.length * val m := by
  induction l with
  | nil => simp [val]
  | cons x l ih => simp [val, ih, Nat.pow_succ]; rw [Nat.mul_add, Nat.add_assoc]; congr 1; congr 1; rw [← Nat.mul_assoc]; congr 1; rw [Nat.mul_comm]
theorem val_lt {l : List Nat} (h : ∀ x ∈ l, x < 256) : val l < 256 ^ l.length := by
  induction l with
  | nil => simp [val]
  | cons x l ih =>
    have h1 := h x (by simp)
    have h2 := ih fun y hy => h y (by simp [hy])
    simp only [val, List.length_cons, Nat.pow_succ]
    omega
theorem val_dig (N k : Nat) : val (dig N k) = N % 256 ^ k := by
  induction k with
  | zero => simp [val, dig, Nat.mod_one]
  | succ k ih => simp only [dig, val_app, ih, dig_len, val, Nat.mul_zero, Nat.add_zero]; rw [Nat.pow_succ, Nat.mod_mul]
theorem dig_val {l : List Nat} (h : ∀ x ∈ l, x < 256) : dig (val l) l.length = l := by
  apply List.ext_getElem?
  intro i
  rcases Nat.lt_or_ge i l.length with hi | hi
  · rw [dig_get hi]
    have e : l = l.take i ++ l[i] :: l.drop (i + 1) := by simp
    have hv : val l = val (l.take i) + 256 ^ i * (l[i] + 256 * val (l.drop (i + 1))) := by
      conv => lhs; rw [e]
      rw [val_app]; simp [val, Nat.min_eq_left (Nat.le_of_lt hi)]
    have hlt : val (l.take i) < 256 ^ i := by
      have := val_lt (l := l.take i) fun x hx => h x (List.mem_of_mem_take hx)
      rwa [List.length_take, Nat.min_eq_left (Nat.le_of_lt hi)] at this
    rw [hv, Nat.add_mul_div_left _ _ (Nat.pow_pos (by decide)), Nat.div_eq_of_lt hlt, Nat.zero_add, Nat.add_mul_mod_self_left, Nat.mod_eq_of_lt (h _ (List.getElem_mem hi))]
    simp [hi]
  · rw [List.getElem?_eq_none (by rw [dig_len]; exact hi), List.getElem?_eq_none hi]
theorem val_get {l : List Nat} (h : ∀ x ∈ l, x < 256) {i : Nat} (hi : i < l.length) : l[i] = val l / 256 ^ i % 256 := by
  have := dig_get (N := val l) (k := l.length) hi
  rw [dig_val h, List.getElem?_eq_getElem hi] at this
  exact Option.some.inj this

theorem pow256 (q : Nat) : 256 ^ q = 2 ^ (8 * q) := by rw [show 256 = 2 ^ 8 from rfl, ← Nat.pow_mul]
/-- Bits laid into the last byte. -/
theorem dig_put {N len k x : Nat} (hN : N < 2 ^ len) (hk : len % 8 + k ≤ 8) (hx : x < 2 ^ k) :
    dig (N + x * 2 ^ len) (len / 8 + 1) = dig N (len / 8) ++ [N / 256 ^ (len / 8) + x * 2 ^ (len % 8)] ∧ N / 256 ^ (len / 8) < 2 ^ (len % 8) ∧ N / 256 ^ (len / 8) + x * 2 ^ (len % 8) < 256 := by
  have e : 2 ^ len = 256 ^ (len / 8) * 2 ^ (len % 8) := by rw [pow256, ← Nat.pow_add]; congr 1; omega
  have h1 : N / 256 ^ (len / 8) < 2 ^ (len % 8) := Nat.div_lt_of_lt_mul (by rw [← e]; exact hN)
  have h2 : (x + 1) * 2 ^ (len % 8) ≤ 2 ^ (len % 8 + k) := by rw [Nat.pow_add, Nat.mul_comm]; exact Nat.mul_le_mul_left _ hx
  have h3 : 2 ^ (len % 8 + k) ≤ 2 ^ 8 := Nat.pow_le_pow_right (by decide) hk
  have h5 : (x + 1) * 2 ^ (len % 8) = x * 2 ^ (len % 8) + 2 ^ (len % 8) := by rw [Nat.add_mul, Nat.one_mul]
  have h4 : N / 256 ^ (len / 8) + x * 2 ^ (len % 8) < 256 := by omega
  have e2 : N + x * 2 ^ len = N + 256 ^ (len / 8) * (x * 2 ^ (len % 8)) := by rw [e]; congr 1; rw [Nat.mul_left_comm]
  refine ⟨?_, h1, h4⟩
  simp only [dig]
  congr 1
  · exact dig_congr (by rw [e2, Nat.add_mul_mod_self_left])
  · rw [e2, Nat.add_mul_div_left _ _ (Nat.pow_pos (by decide)), Nat.mod_eq_of_lt h4]
theorem lt_put {N len k x : Nat} (hN : N < 2 ^ len) (hx : x < 2 ^ k) : N + x * 2 ^ len < 2 ^ (len + k) := by
  have h2 : (x + 1) * 2 ^ len ≤ 2 ^ (len + k) := by rw [Nat.pow_add, Nat.mul_comm]; exact Nat.mul_le_mul_left _ hx
  have h5 : (x + 1) * 2 ^ len = x * 2 ^ len + 2 ^ len := by rw [Nat.add_mul, Nat.one_mul]
  omega
/-- What a part of a byte says. -/
theorem part_eq {N at_ k : Nat} (hk : at_ % 8 + k ≤ 8) : N / 256 ^ (at_ / 8) % 256 / 2 ^ (at_ % 8) % 2 ^ k = N / 2 ^ at_ % 2 ^ k := by
  have e : 2 ^ at_ = 256 ^ (at_ / 8) * 2 ^ (at_ % 8) := by rw [pow256, ← Nat.pow_add]; congr 1; omega
  rw [e, ← Nat.div_div_eq_div_mul]
  generalize N / 256 ^ (at_ / 8) = M
  have h8 : 256 = 2 ^ (at_ % 8) * 2 ^ (8 - at_ % 8) := by rw [← Nat.pow_add, show at_ % 8 + (8 - at_ % 8) = 8 by omega]
  rw [h8, Nat.mod_mul_right_div_self]
  exact Nat.mod_mod_of_dvd _ (Nat.pow_dvd_pow 2 (by omega))
theorem join_eq (M h k : Nat) : M % 2 ^ h + M / 2 ^ h % 2 ^ k * 2 ^ h = M % 2 ^ (h + k) := by
  rw [Nat.pow_add, Nat.mod_mul, Nat.mul_comm]

/-- Natural numbers as bytes. -/
def nV (l : List Nat) : List Value := l.map fun x : Nat => .int .u8 (x : Int)
theorem nV_len (l : List Nat) : (nV l).length = l.length := by simp [nV]
theorem nV_app (a b : List Nat) : nV (a ++ b) = nV a ++ nV b := by simp [nV]
theorem nV_one (l : List Nat) : ∀ v ∈ nV l, oneC v = true := by
  intro v hv; simp only [nV, List.mem_map] at hv; obtain ⟨b, _, rfl⟩ := hv; rfl
theorem nV_get {l : List Nat} {i : Nat} (hi : i < l.length) : (nV l)[i]? = some (.int .u8 l[i]) := by simp [nV, hi]
theorem nV_at {l m : List Nat} {x i : Nat} (h : l.length = i) : (nV (l ++ x :: m))[i]? = some (.int .u8 (x : Int)) := by subst h; simp [nV]
theorem nV_setat {l m : List Nat} {x y i : Nat} (h : l.length = i) : (nV (l ++ x :: m)).set i (.int .u8 (y : Int)) = nV (l ++ y :: m) := by subst h; simp [nV, List.set_append_right]
theorem nV_by (bs : List (BitVec 8)) : byV bs = nV (bs.map (·.toNat)) := by simp [byV, nV]
theorem nV_inj {a b : List Nat} (h : nV a = nV b) : a = b := by
  refine List.map_inj_right (f := fun x : Nat => Value.int .u8 (x : Int)) (fun x y e => ?_) |>.1 h
  simp only [Value.int.injEq, true_and] at e; omega
end Go.HW

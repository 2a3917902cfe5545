/- Linear maps of 32 bits, by their columns. -/
import Derived.Test.YtdhhpnfdnoaihaaM1
namespace Go.Proofs.Ytdhhpnfdnoaihaa.PCrc
def Lin (f : BitVec 32 → BitVec 32) : Prop := ∀ a b, f (a ^^^ b) = f a ^^^ f b
theorem Lin.zero {f : BitVec 32 → BitVec 32} (h : Lin f) : f 0#32 = 0#32 := by
  have := h 0#32 0#32
  rw [BitVec.xor_self, BitVec.xor_self] at this; exact this
theorem lin_pow (n : Nat) : Lin (pow n) := fun a b => pow_xor n a b
/-- what is left of v behind its first k bits, at its place -/
def rest (v : BitVec 32) (k : Nat) : BitVec 32 := (v >>> k) <<< k
theorem rest_bit (v : BitVec 32) (k i : Nat) (hi : i < 32) : (rest v k).getLsbD i = (decide (k ≤ i) && v.getLsbD i) := by
  unfold rest
  simp only [BitVec.getLsbD_shiftLeft, BitVec.getLsbD_ushiftRight]
  by_cases h : k ≤ i
  · have : ¬ i < k := by omega
    simp [h, this, hi]
  · have : i < k := by omega
    simp [h, this]
theorem low_bit (v : BitVec 32) (k : Nat) : ((v >>> k) &&& 1#32).getLsbD 0 = v.getLsbD k := by
  simp
theorem rest0 (v : BitVec 32) (k : Nat) (h : (v >>> k) &&& 1#32 = 0#32) : rest v k = rest v (k + 1) := by
  have hk : v.getLsbD k = false := by rw [← low_bit, h]; rfl
  apply BitVec.eq_of_getLsbD_eq; intro i hi
  rw [rest_bit _ _ _ hi, rest_bit _ _ _ hi]
  by_cases e : i = k
  · subst e; simp [hk]
  · have : (k ≤ i) ↔ (k + 1 ≤ i) := by omega
    simp [this]
theorem one_bit (k i : Nat) (hi : i < 32) : (1#32 <<< k).getLsbD i = decide (i = k) := by
  simp only [BitVec.getLsbD_shiftLeft]
  by_cases e : i = k
  · subst e; simp [hi]
  · by_cases h : i < k
    · simp [h, e]
    · have : i - k ≠ 0 := by omega
      simp [h, e, hi, BitVec.getLsbD_one, this]
theorem rest1 (v : BitVec 32) (k : Nat) (h : (v >>> k) &&& 1#32 = 1#32) : (v ^^^ rest v k) ^^^ (1#32 <<< k) = v ^^^ rest v (k + 1) := by
  have hk : v.getLsbD k = true := by rw [← low_bit, h]; rfl
  rw [BitVec.xor_assoc]
  congr 1
  apply BitVec.eq_of_getLsbD_eq; intro i hi
  rw [BitVec.getLsbD_xor, rest_bit _ _ _ hi, rest_bit _ _ _ hi, one_bit _ _ hi]
  by_cases e : i = k
  · subst e; simp [hk]
  · have : (k ≤ i) ↔ (k + 1 ≤ i) := by omega
    simp [this, e]
theorem shift_lt (v : BitVec 32) (k : Nat) (h : v >>> k ≠ 0#32) : k < 32 := by
  apply Classical.byContradiction; intro hk
  apply h
  apply BitVec.eq_of_getLsbD_eq; intro i hi
  rw [BitVec.getLsbD_ushiftRight]
  simp [BitVec.getLsbD_of_ge v (k + i) (by omega)]
theorem rest_zero (v : BitVec 32) : v ^^^ rest v 0 = 0#32 := by
  unfold rest; simp
theorem rest_end (v : BitVec 32) (k : Nat) (h : v >>> k = 0#32) : v ^^^ rest v k = v := by
  unfold rest; rw [h]; simp
/-- what 'times' has gathered -/
def got (f : BitVec 32 → BitVec 32) (v : BitVec 32) (k : Nat) : BitVec 32 := f (v ^^^ rest v k)
theorem got_start {f} (h : Lin f) (v : BitVec 32) : got f v 0 = 0#32 := by unfold got; rw [rest_zero, h.zero]
theorem got0 (f) (v : BitVec 32) (k : Nat) (h : (v >>> k) &&& 1#32 = 0#32) : got f v (k + 1) = got f v k := by unfold got; rw [rest0 v k h]
theorem got1 {f} (hf : Lin f) (v : BitVec 32) (k : Nat) (h : (v >>> k) &&& 1#32 = 1#32) : got f v (k + 1) = got f v k ^^^ f (1#32 <<< k) := by
  unfold got; rw [← rest1 v k h, hf]
theorem got_end (f) (v : BitVec 32) (k : Nat) (h : v >>> k = 0#32) : got f v k = f v := by unfold got; rw [rest_end v k h]
theorem shr_succ (v : BitVec 32) (k : Nat) : (v >>> k) >>> 1 = v >>> (k + 1) := by rw [BitVec.shiftRight_add]
end Go.Proofs.Ytdhhpnfdnoaihaa.PCrc

/- A text of which up to four bytes in a row are changed. -/
import Derived.Test.YtdhhpnfdnoaihaaM2
import Derived.Test.YtdhhpnfdnoaihaaC3
namespace Go.Proofs.Ytdhhpnfdnoaihaa

/-- the text l, changed by the first k of the bytes bys from place at on -/
def oth (l : List UInt8) (at' : Nat) (bys : List UInt8) (k : Nat) : List UInt8 :=
  l.mapIdx (fun i b => if at' ≤ i ∧ i < at' + k then b ^^^ bys.getD (i - at') 0 else b)
theorem oth_length (l : List UInt8) (at' : Nat) (bys : List UInt8) (k : Nat) : (oth l at' bys k).length = l.length := by simp [oth]
theorem oth_get (l : List UInt8) (at' : Nat) (bys : List UInt8) (k i : Nat) (h : i < l.length) :
    (oth l at' bys k)[i]? = some (if at' ≤ i ∧ i < at' + k then l[i] ^^^ bys.getD (i - at') 0 else l[i]) := by
  unfold oth; rw [List.getElem?_mapIdx, List.getElem?_eq_getElem h]; rfl
theorem oth_zero (l : List UInt8) (at' : Nat) (bys : List UInt8) : oth l at' bys 0 = l := by
  apply List.ext_getElem?; intro i
  by_cases h : i < l.length
  · rw [oth_get _ _ _ _ _ h, if_neg (by omega), List.getElem?_eq_getElem h]
  · rw [List.getElem?_eq_none (by rw [oth_length]; omega), List.getElem?_eq_none (by omega)]
theorem oth_at (l : List UInt8) (at' : Nat) (bys : List UInt8) (k : Nat) (h : at' + k < l.length) : (oth l at' bys k)[at' + k]? = some l[at' + k] := by
  rw [oth_get _ _ _ _ _ h, if_neg (by omega)]
theorem oth_succ (l : List UInt8) (at' : Nat) (bys : List UInt8) (k : Nat) (h : at' + k < l.length) :
    oth l at' bys (k + 1) = (oth l at' bys k).set (at' + k) (l[at' + k] ^^^ bys.getD k 0) := by
  apply List.ext_getElem?; intro i
  by_cases hi : i < l.length
  · rw [oth_get _ _ _ _ _ hi, List.getElem?_set]
    by_cases e : at' + k = i
    · subst e
      rw [if_pos rfl, if_pos (by omega), if_pos (by rw [oth_length]; exact hi)]
      rw [show at' + k - at' = k by omega]
    · rw [if_neg e, oth_get _ _ _ _ _ hi]
      congr 1
      by_cases h1 : at' ≤ i ∧ i < at' + k
      · rw [if_pos h1, if_pos (by omega)]
      · rw [if_neg h1, if_neg (by omega)]
  · rw [List.getElem?_eq_none (by rw [oth_length]; omega), List.getElem?_eq_none (by rw [List.length_set, oth_length]; omega)]
theorem oth_zip (l : List UInt8) (at' : Nat) (bys : List UInt8) (k : Nat) (h : at' + k ≤ l.length) (hb : k ≤ bys.length) :
    List.zipWith (· ^^^ ·) (l.map UInt8.toBitVec) ((oth l at' bys k).map UInt8.toBitVec) =
      List.replicate at' 0#8 ++ (((bys.take k).map UInt8.toBitVec) ++ List.replicate (l.length - at' - k) 0#8) := by
  apply List.ext_getElem?; intro i
  rw [List.getElem?_zipWith, List.getElem?_map, List.getElem?_map]
  by_cases hi : i < l.length
  · rw [List.getElem?_eq_getElem hi, oth_get _ _ _ _ _ hi]
    simp only [Option.map_some]
    by_cases h1 : i < at'
    · rw [if_neg (by omega), BitVec.xor_self, List.getElem?_append_left (by simpa using h1), List.getElem?_replicate, if_pos h1]
    · rw [List.getElem?_append_right (by simpa using h1), List.length_replicate]
      by_cases h2 : i < at' + k
      · rw [if_pos ⟨by omega, h2⟩, List.getElem?_append_left (by simp; omega), List.getElem?_map, List.getElem?_take, if_pos (by omega)]
        have h3 : i - at' < bys.length := by omega
        rw [List.getElem?_eq_getElem h3, List.getD_eq_getElem?_getD, List.getElem?_eq_getElem h3]
        simp only [Option.map_some, Option.getD_some, UInt8.toBitVec_xor]
        rw [← BitVec.xor_assoc, BitVec.xor_self, BitVec.zero_xor]
      · rw [if_neg (by omega), BitVec.xor_self, List.getElem?_append_right (by simp; omega), List.getElem?_replicate, if_pos (by simp; omega)]
  · rw [List.getElem?_eq_none (by omega)]
    symm
    rw [Option.map_none, List.getElem?_eq_none (by simp; omega)]
/-- P2.3 -/
theorem oth_sum (l : List UInt8) (at' : Nat) (bys : List UInt8) (k : Nat) (h : at' + k ≤ l.length) (hb : k ≤ bys.length) (h4 : k ≤ 4) :
    csum l = csum (oth l at' bys k) ↔ ∀ b ∈ bys.take k, b = 0 := by
  unfold csum
  rw [PCrc.sum_eq _ _ (by simp [oth_length]), oth_zip l at' bys k h hb, PCrc.window _ _ _ (by simp; omega)]
  constructor
  · intro hx b hm
    have := hx b.toBitVec (List.mem_map.2 ⟨b, hm, rfl⟩)
    exact UInt8.toBitVec_inj.1 this
  · intro hx b hm
    obtain ⟨c, hc, rfl⟩ := List.mem_map.1 hm
    rw [hx c hc]; rfl
/-- are the first k of them noughts? -/
def allZ (bys : List UInt8) (k : Nat) : Bool := (bys.take k).all (· == 0)
theorem allZ_succ (bys : List UInt8) (k : Nat) (h : k < bys.length) : allZ bys (k + 1) = (allZ bys k && bys[k] == 0) := by
  unfold allZ
  rw [List.take_succ_eq_append_getElem h, List.all_append]; simp
theorem oth_same (l : List UInt8) (at' : Nat) (bys : List UInt8) (k : Nat) (h : at' + k ≤ l.length) (hb : k ≤ bys.length) (h4 : k ≤ 4) :
    (((csum (oth l at' bys k)).toNat : Int) == ((csum l).toNat : Int)) = allZ bys k := by
  have e := oth_sum l at' bys k h hb h4
  rw [Bool.eq_iff_iff]
  simp only [allZ, List.all_eq_true, beq_iff_eq]
  rw [← e]
  exact ⟨fun h => (BitVec.eq_of_toNat_eq (by omega)), fun h => by rw [h]⟩
end Go.Proofs.Ytdhhpnfdnoaihaa

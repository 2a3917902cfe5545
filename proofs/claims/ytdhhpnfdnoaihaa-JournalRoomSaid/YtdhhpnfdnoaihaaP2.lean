/- The plain law of a journal's Append: on a disk that is not armed what fits goes through. -/
import Derived.Test.YtdhhpnfdnoaihaaK2
import Derived.Test.YtdhhpnfdnoaihaaP1
namespace Go.Proofs.Ytdhhpnfdnoaihaa
open Go.RowKit

/-- not down, not armed -/
structure Calm (st : DSt) : Prop where
  down : st.down = false
  armed : st.armed < 0
theorem Calm.changed {st : DSt} (h : Calm st) : st.changed = st := by unfold DSt.changed; rw [if_neg (by have := h.armed; omega)]
theorem Calm.write {st : DSt} (h : Calm st) (i : Nat) (d : List UInt8) (hi : i < st.last.length) (hd : d.length ≤ 64) : st.write (i : Int) d = (st.put i (pad64 d), 0) := by
  have hm : st.may (i : Int) = 0 := by
    unfold DSt.may
    rw [h.down]
    simp
    omega
  have hc : Calm (st.put i (pad64 d)) := ⟨h.down, h.armed⟩
  unfold DSt.write
  rw [if_pos hm, if_neg (by omega), Int.toNat_natCast, hc.changed]
/-- what a run of writes lays into the buffer -/
def laidL : Nat → Nat → List UInt8 → List (Nat × List UInt8)
  | 0, _, _ => []
  | n + 1, i, f => if f = [] then [] else (i, pad64 (f.take 64)) :: laidL n (i + 1) (f.drop 64)
theorem wrs_calm : ∀ (n : Nat) (st : DSt) (i : Nat) (f : List UInt8), Calm st → i * 64 + f.length ≤ 64 * st.last.length → wrs n st i f = ({ st with waits := st.waits ++ laidL n i f }, 0)
  | 0, st, i, f, _, _ => by simp [wrs, laidL]
  | n + 1, st, i, f, h, hr => by
    unfold wrs laidL
    by_cases hf : f = []
    · rw [if_pos hf, if_pos hf]; simp
    · rw [if_neg hf, if_neg hf]
      have hpos : 0 < f.length := by
        cases f with
        | nil => exact absurd rfl hf
        | cons _ _ => simp
      have hw := h.write i (f.take 64) (by omega) (by rw [List.length_take]; omega)
      rw [hw, if_pos rfl, wrs_calm n (st.put i (pad64 (f.take 64))) (i + 1) (f.drop 64) ⟨h.down, h.armed⟩ (by
        show (i + 1) * 64 + (f.drop 64).length ≤ 64 * st.last.length
        rw [List.length_drop]
        by_cases h64 : f.length ≤ 64
        · have : i < st.last.length := by omega
          omega
        · omega)]
      simp [DSt.put]
theorem jpart_len (st : DSt) (fr en : Nat) : (jpart st fr en).length ≤ en % 64 := by
  unfold jpart
  split
  · rw [List.length_take]; omega
  · simp
theorem jall_len (st : DSt) (fr en : Nat) (b : List UInt8) : (jall st fr en b).length ≤ en % 64 + b.length + 16 := by
  unfold jall
  rw [List.length_append, frameL_len]
  have := jpart_len st fr en
  omega
/-- what stands behind an Append that fits -/
theorem append_calm {st : DSt} (h : Calm st) (fr to en : Nat) (b : List UInt8) (hf : fr ≤ to ∧ to ≤ st.last.length) (hroom : en + b.length + 16 ≤ (to - fr) * 64) :
    st.append fr en b = ({ last := setAll st.last (st.waits ++ laidL ((jall st fr en b).length + 1) (fr + en / 64) (jall st fr en b)), waits := [], armed := st.armed, down := false }, 0) := by
  have hl := jall_len st fr en b
  have hw := wrs_calm ((jall st fr en b).length + 1) st (fr + en / 64) (jall st fr en b) h (by omega)
  unfold DSt.append
  rw [hw, if_pos rfl]
  unfold DSt.flush
  rw [if_neg (by show ¬ st.down = true; rw [h.down]; simp)]
  have hc : Calm ({ (DSt.settle { st with waits := st.waits ++ laidL ((jall st fr en b).length + 1) (fr + en / 64) (jall st fr en b) } (st.waits ++ laidL ((jall st fr en b).length + 1) (fr + en / 64) (jall st fr en b)).length) with waits := [] } : DSt) := ⟨h.down, h.armed⟩
  rw [hc.changed]
  unfold DSt.settle
  rw [List.take_length]
  simp only [h.down]
end Go.Proofs.Ytdhhpnfdnoaihaa

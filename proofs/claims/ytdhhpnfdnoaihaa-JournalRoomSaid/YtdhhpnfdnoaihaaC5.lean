/- The contracts of the matrix's times and square. -/
import Derived.Test.YtdhhpnfdnoaihaaM2
import Derived.Test.YtdhhpnfdnoaihaaC4
namespace Go.Proofs.Ytdhhpnfdnoaihaa
open Go.RowKit

theorem nez32 (y : BitVec 32) (h : y ≠ 0#32) : ((y.toNat : Int) != 0) = true := by
  rw [bne_iff_ne]; intro e; exact h (BitVec.eq_of_toNat_eq (by simpa using e))

set_option maxHeartbeats 400000 in
theorem times_any (mb : Nat) (f : BitVec 32 → BitVec 32) (hf : PCrc.Lin f) (v : BitVec 32) (w : World)
    (hc : ∀ i, i < 32 → w.cell? ⟨mb, i, none⟩ = some (U32 (f (1#32 <<< i)))) :
    Calls Try.prog 63 #[.pointer (some ⟨mb, 0, none⟩), U32 v] w fun e w' => e = .returned (U32 (f v)) ∧ w = w' := by
  have HC := hid hc
  clear hc
  have h0 : (0 : Int) = ((PCrc.got f v 0).toNat : Int) := by rw [PCrc.got_start hf]; rfl
  have H0 := hid h0
  clear h0
  have h1 : v = v >>> 0 := by simp
  have H1 := hid h1
  clear h1
  unfold U32
  go_enter Try.func63, Try.ntmps63
  go_wp2
  go_loop [1, 5, 6] (fun x out i => ∃ k : Nat, k ≤ 32 ∧ i = .int .i64 k ∧ x = U32 (v >>> k) ∧ out = U32 (PCrc.got f v k)) (fun _ _ i => 33 - (intOf i).toNat)
  case atStart => exact ⟨0, by omega, rfl, by unfold U32; rw [← H1.out], by unfold U32; rw [← H0.out]⟩
  case round =>
    obtain ⟨k, hk, rfl, rfl, rfl⟩ := hrel
    by_cases hz : v >>> k = 0#32
    · have HE := hid (PCrc.got_end f v k hz)
      rw [hz]
      clear hz
      generalize PCrc.got f v k = y at HE ⊢
      unfold U32
      go_wp2
      go_ret
      exact ⟨ret_int (by rw [HE.out]), rfl⟩
    · have hlt := PCrc.shift_lt v k hz
      have hne := nez32 _ hz
      have HS := hid (PCrc.shr_succ v k)
      have hcell := HC.out k hlt
      have HG0 := hid (PCrc.got0 f v k)
      have HG1 := hid (PCrc.got1 hf v k)
      generalize hy : v >>> k = y at *
      generalize hg : PCrc.got f v k = g at *
      generalize hm : f (1#32 <<< k) = m at *
      clear hz hy hg hm
      unfold U32 at hcell ⊢
      rcases PCrc.low_cases y with h | h
      · have hr : bits .and .u32 (y.toNat : Int) 1 = 0 := by have := and32 y 1#32; rw [h] at this; exact this
        have H := hid h
        clear h
        go_wp2
        go_round
        case rel => exact ⟨k + 1, by omega, by go_num, by rw [← HS.out, shr32], by rw [HG0.out H.out]⟩
        case measure => simp [intOf]; omega
      · have hr : bits .and .u32 (y.toNat : Int) 1 = 1 := by have := and32 y 1#32; rw [h] at this; exact this
        have H := hid h
        clear h
        go_wp2
        go_round
        case rel => exact ⟨k + 1, by omega, by go_num, by rw [← HS.out, shr32], by rw [HG1.out H.out, xor32]⟩
        case measure => simp [intOf]; omega
end Go.Proofs.Ytdhhpnfdnoaihaa

/- Contracts of the reference's Step and Sum. -/
import Derived.Test.YtdhhpnfdnoaihaaC1
namespace Go.Proofs.Ytdhhpnfdnoaihaa
open Go.RowKit

theorem rem32_1 (x : BitVec 32) (h : x &&& 1#32 = 1#32) : (x.toNat : Int) % (2 : Int) = 1 := by
  have := congrArg BitVec.toNat h
  rw [BitVec.toNat_and] at this
  have e : x.toNat &&& 1 = 1 := this
  rw [Nat.and_one_is_mod] at e; omega
theorem rem32_0 (x : BitVec 32) (h : x &&& 1#32 = 0#32) : (x.toNat : Int) % (2 : Int) = 0 := by
  have := congrArg BitVec.toNat h
  rw [BitVec.toNat_and] at this
  have e : x.toNat &&& 1 = 0 := this
  rw [Nat.and_one_is_mod] at e; omega
theorem s1_one (x : BitVec 32) (h : x &&& 1#32 = 1#32) : bits .xor .u32 ((x.toNat : Int) / (2 : Int)) 3988292384 = ((PCrc.s1 x).toNat : Int) := by
  have e : ∀ y : BitVec 32, bits .xor .u32 (y.toNat : Int) 3988292384 = ((y ^^^ PCrc.poly).toNat : Int) := fun y => xor32 y PCrc.poly
  rw [shr32, e]; unfold PCrc.s1; rw [h]; rfl
theorem s1_nil (x : BitVec 32) (h : x &&& 1#32 = 0#32) : (x.toNat : Int) / (2 : Int) = ((PCrc.s1 x).toNat : Int) := by
  rw [shr32]; unfold PCrc.s1; rw [h]; simp

set_option maxHeartbeats 400000 in
theorem refstep_any (c : BitVec 32) (b : UInt8) (w : World) :
    Calls Try.prog 22 #[.int .u32 (c.toNat : Int), .int .u8 (b.toNat : Int)] w fun e w' => e = .returned (.int .u32 ((PCrc.step c b.toBitVec).toNat : Int)) ∧ w = w' := by
  have hb : (b.toNat : Int) < 256 := by have := b.toNat_lt; omega
  have h0 : bits .xor .u32 (c.toNat : Int) (b.toNat : Int) = ((PCrc.bits1 0 (c ^^^ b.toBitVec.setWidth 32)).toNat : Int) := by
    have e := xor32 c (b.toBitVec.setWidth 32)
    rw [PCrc.byte_toNat] at e; exact e
  go_enter Try.func22, Try.ntmps22
  go_wp2
  go_loop [0, 5] (fun x i => ∃ k : Nat, k ≤ 8 ∧ i = .int .i64 k ∧ x = .int .u32 ((PCrc.bits1 k (c ^^^ b.toBitVec.setWidth 32)).toNat : Int)) (fun _ i => 8 - (intOf i).toNat)
  case atStart => exact ⟨0, by omega, rfl, by rfl⟩
  case round =>
    obtain ⟨k, hk, rfl, rfl⟩ := hrel
    clear h0 hb
    generalize hx : PCrc.bits1 k (c ^^^ b.toBitVec.setWidth 32) = x
    have HX := hid hx
    clear hx
    by_cases hlt : k < 8
    · rcases PCrc.low_cases x with h | h
      · have hr := rem32_0 x h
        have H := hid h
        clear h
        go_wp2
        go_round
        case rel => exact ⟨k + 1, by omega, by go_num, congrArg (Value.int .u32) ((s1_nil x H.out).trans (by rw [← HX.out]; rfl))⟩
        case measure => simp [intOf]; omega
      · have hr := rem32_1 x h
        have H := hid h
        clear h
        go_wp2
        go_round
        case rel => exact ⟨k + 1, by omega, by go_num, congrArg (Value.int .u32) ((s1_one x H.out).trans (by rw [← HX.out]; rfl))⟩
        case measure => simp [intOf]; omega
    · obtain rfl : k = 8 := by omega
      go_wp2
      go_ret
      exact ⟨ret_int (by rw [← HX.out]; rfl), rfl⟩
end Go.Proofs.Ytdhhpnfdnoaihaa

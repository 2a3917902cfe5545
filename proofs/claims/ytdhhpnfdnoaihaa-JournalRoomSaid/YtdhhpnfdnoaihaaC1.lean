/- Contracts of crc.Step and of the reference's. -/
import Derived.Test.YtdhhpnfdnoaihaaM1
import Derived.Test.YtdhhpnfdnoaihaaProg
import Derived.Test.YtdhhpnfdnoaihaaL1
namespace Go.Proofs.Ytdhhpnfdnoaihaa
open Go.RowKit

theorem w32 (n : Int) : IntKind.u32.wrap n = n % 4294967296 := by simp [IntKind.wrap, IntKind.bits, IntKind.signed]
theorem bv32 (a : BitVec 32) : BitVec.ofInt 32 (a.toNat : Int) = a := by
  rw [BitVec.ofInt_natCast]; simp
theorem xor32 (a b : BitVec 32) : bits .xor .u32 (a.toNat : Int) (b.toNat : Int) = ((a ^^^ b).toNat : Int) := by
  show IntKind.u32.wrap ((BitVec.ofInt 32 (a.toNat : Int) ^^^ BitVec.ofInt 32 (b.toNat : Int)).toNat : Int) = _
  rw [bv32, bv32, w32]; have := (a ^^^ b).isLt; omega
theorem and32 (a b : BitVec 32) : bits .and .u32 (a.toNat : Int) (b.toNat : Int) = ((a &&& b).toNat : Int) := by
  show IntKind.u32.wrap ((BitVec.ofInt 32 (a.toNat : Int) &&& BitVec.ofInt 32 (b.toNat : Int)).toNat : Int) = _
  rw [bv32, bv32, w32]; have := (a &&& b).isLt; omega
theorem shr32 (a : BitVec 32) : (a.toNat : Int) / (2 : Int) = ((a >>> 1).toNat : Int) := by
  rw [BitVec.toNat_ushiftRight, Nat.shiftRight_eq_div_pow]; omega
theorem neg32 (a : BitVec 32) : -(a.toNat : Int) % 4294967296 = ((-a).toNat : Int) := by
  rw [BitVec.toNat_neg]; have := a.isLt; omega
theorem s1_spell (x : BitVec 32) : bits .xor .u32 ((x.toNat : Int) / 2) (bits .and .u32 3988292384 (-bits .and .u32 (x.toNat : Int) 1 % 4294967296)) = ((PCrc.s1 x).toNat : Int) := by
  have e1 : bits .and .u32 (x.toNat : Int) 1 = ((x &&& 1#32).toNat : Int) := and32 x 1#32
  have e2 : ∀ y : BitVec 32, bits .and .u32 3988292384 (y.toNat : Int) = ((PCrc.poly &&& y).toNat : Int) := fun y => and32 PCrc.poly y
  rw [e1, neg32, e2, shr32, xor32]; rfl
theorem ret_int {k : IntKind} {a b : Int} (h : a = b) : Ending.returned (Value.int k a) = .returned (.int k b) := by rw [h]
theorem ret_bool {a b : Bool} (h : a = b) : Ending.returned (Value.bool a) = .returned (.bool b) := by rw [h]

set_option maxHeartbeats 400000 in
theorem step_any (c : BitVec 32) (b : UInt8) (w : World) :
    Calls Try.prog 21 #[.int .u32 (c.toNat : Int), .int .u8 (b.toNat : Int)] w fun e w' => e = .returned (.int .u32 ((PCrc.step c b.toBitVec).toNat : Int)) ∧ w = w' := by
  have hb : (b.toNat : Int) < 256 := by have := b.toNat_lt; omega
  have h0 : bits .xor .u32 (c.toNat : Int) (b.toNat : Int) = ((PCrc.bits1 0 (c ^^^ b.toBitVec.setWidth 32)).toNat : Int) := by
    have e := xor32 c (b.toBitVec.setWidth 32)
    rw [PCrc.byte_toNat] at e; exact e
  go_enter Try.func21, Try.ntmps21
  go_wp2
  go_loop [0, 9] (fun x i => ∃ k : Nat, k ≤ 8 ∧ i = .int .i64 k ∧ x = .int .u32 ((PCrc.bits1 k (c ^^^ b.toBitVec.setWidth 32)).toNat : Int)) (fun _ i => 8 - (intOf i).toNat)
  case atStart => exact ⟨0, by omega, rfl, by rfl⟩
  case round =>
    obtain ⟨k, hk, rfl, rfl⟩ := hrel
    clear h0 hb
    generalize hx : PCrc.bits1 k (c ^^^ b.toBitVec.setWidth 32) = x
    have HX := hid hx
    clear hx
    by_cases hlt : k < 8
    · go_wp2
      go_round
      case rel => exact ⟨k + 1, by omega, by go_num, congrArg (Value.int .u32) ((s1_spell x).trans (by rw [← HX.out]; rfl))⟩
      case measure => simp [intOf]; omega
    · obtain rfl : k = 8 := by omega
      go_wp2
      go_ret
      exact ⟨ret_int (by rw [← HX.out]; rfl), rfl⟩
end Go.Proofs.Ytdhhpnfdnoaihaa

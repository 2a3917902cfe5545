/- The walks of CrcSteps and CrcBack. -/
import Derived.Test.YtdhhpnfdnoaihaaV1
import Derived.Test.YtdhhpnfdnoaihaaC8
namespace Go.Proofs.Ytdhhpnfdnoaihaa
open Go.RowKit

theorem open_u32 {a : Int} (h : (Lit.int .u32 a).wf = true) : ∃ c : BitVec 32, a = (c.toNat : Int) := by
  have hb : 0 ≤ a ∧ a ≤ 4294967295 := by simpa [Lit.wf, IntKind.min, IntKind.max, IntKind.signed, IntKind.bits] using h
  refine ⟨BitVec.ofNat 32 a.toNat, ?_⟩
  rw [BitVec.toNat_ofNat]; omega
theorem open_u8 {a : Int} (h : (Lit.int .u8 a).wf = true) : ∃ c : UInt8, a = (c.toNat : Int) := by
  have hb : 0 ≤ a ∧ a ≤ 255 := by simpa [Lit.wf, IntKind.min, IntKind.max, IntKind.signed, IntKind.bits] using h
  refine ⟨UInt8.ofNat a.toNat, ?_⟩
  rw [UInt8.toNat_ofNat']; omega

set_option maxHeartbeats 400000 in
theorem CrcSteps_walk (w : World) (a0 : Int) (w0 : (Lit.int .u32 a0).wf = true) (a1 : Int) (w1 : (Lit.int .u8 a1).wf = true) :
    Calls Try.prog 3 #[.int .u32 a0, .int .u8 a1] w fun e w' => e = .returned (.bool true) ∧ Below w.heap.size w w' := by
  obtain ⟨c, rfl⟩ := open_u32 w0
  obtain ⟨b, rfl⟩ := open_u8 w1
  clear w0 w1
  go_enter Try.func3, Try.ntmps3
  go_wp2_with (first
    | (go_at_call 20; refine (awake2_any _).mono ?_; rintro e w' ⟨rfl, hm⟩; have HM := hid hm; clear hm)
    | (go_at_call 21; refine (step_any c b _).mono ?_; rintro e w' ⟨rfl, rfl⟩)
    | (go_at_call 22; refine (refstep_any c b _).mono ?_; rintro e w' ⟨rfl, rfl⟩))
  go_ret
  exact ⟨ret_bool (by simp), HM.out.below _ (Nat.le_refl _) (fun _ h => h.elim)⟩
end Go.Proofs.Ytdhhpnfdnoaihaa

/- awake of layer 7. -/
import Derived.Test.YtmafdlabbgpacaaC8
namespace Go.Proofs.Ytmafdlabbgpacaa
open Go.RowKit

theorem aw_n1 : nextL [195, 169] 0 = (233, 2) := by decide +kernel
theorem aw_n2 : nextL [192, 128] 0 = (0, 0) := by decide +kernel
theorem aw_pl : placeL [97, 10, 98, 99] 3 = (2, 2) := by decide +kernel
theorem aw_put : putL 233 = [195, 169] := by decide +kernel
theorem aw_bad : badL [97, 195] = 1 := by decide +kernel
theorem letter113 (w : World) : Calls Try.prog 20 #[.int .i32 113] w fun e w' => e = .returned (.bool true) ∧ w = w' := by
  go_enter Try.func20, Try.ntmps20
  go_wp2
  go_ret
  exact ⟨rfl, rfl⟩
theorem char1 (w : World) : Calls Try.prog 18 #[.int .i32 1] w fun e w' => e = .returned (.bool false) ∧ w = w' := by
  go_enter Try.func18, Try.ntmps18
  go_wp2
  go_ret
  exact ⟨rfl, rfl⟩
set_option maxRecDepth 100000 in
set_option maxHeartbeats 800000 in
theorem awake7_any (w : World) : Calls Try.prog 10 #[] w fun e w' => e = .returned (.bool true) ∧ Mod None w w' := by
  go_enter Try.func10, Try.ntmps10
  go_wp2_with fail
  refine (next_any w { data := #[195, 169] } 0 (by decide)).mono ?_
  rw [show (ByteArray.mk #[195, 169]).data.toList = [195, 169] from rfl, aw_n1]
  rintro e w1 ⟨rfl, hm⟩
  have H1 := hid hm
  clear hm
  go_wp2_with fail
  refine (next_any w1 { data := #[192, 128] } 0 (by decide)).mono ?_
  rw [show (ByteArray.mk #[192, 128]).data.toList = [192, 128] from rfl, aw_n2]
  rintro e w2 ⟨rfl, hm⟩
  have H2 := hid hm
  clear hm
  go_wp2_with fail
  refine (place_any w2 { data := #[97, 10, 98, 99] } 3 (by decide)).mono ?_
  rw [show (ByteArray.mk #[97, 10, 98, 99]).data.toList = [97, 10, 98, 99] from rfl, aw_pl]
  rintro e w3 ⟨rfl, hm⟩
  have H3 := hid hm
  clear hm
  go_wp2_with fail
  refine (put_any w3 233).mono ?_
  rw [aw_put]
  rintro e w4 ⟨rfl, hm⟩
  have H4 := hid hm
  clear hm
  unfold Str
  go_wp2_with fail
  refine (bad_any w4 { data := #[97, 195] } (by decide)).mono ?_
  rw [show (ByteArray.mk #[97, 195]).data.toList = [97, 195] from rfl, aw_bad]
  rintro e w5 ⟨rfl, hm⟩
  have H5 := hid hm
  clear hm
  go_wp2_with fail
  refine (letter113 w5).mono ?_
  rintro e w6 ⟨rfl, rfl⟩
  go_wp2_with fail
  refine (char1 w5).mono ?_
  rintro e w6 ⟨rfl, rfl⟩
  go_wp2_with fail
  go_ret
  exact ⟨rfl, ((((H1.out.trans H2.out).trans H3.out).trans H4.out).trans H5.out)⟩
end Go.Proofs.Ytmafdlabbgpacaa

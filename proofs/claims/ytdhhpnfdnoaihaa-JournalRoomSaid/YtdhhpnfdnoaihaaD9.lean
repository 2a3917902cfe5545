/- awake of layer 3. -/
import Derived.Test.YtdhhpnfdnoaihaaD8
namespace Go.Proofs.Ytdhhpnfdnoaihaa
open Go.RowKit

theorem eq_lit {S : Nat → Prop} {l m : List UInt8} (n : Nat) (h : l.take 2 = m) (hm : n = m.length) {w : World} {a : Option Addr} (hr : Safe S w a l) (c : Nat) : (convert 27 9 (.slice a n c)).run Try.prog w = .ok (Str m) w := by
  subst hm h
  exact str_rd (hr.1.take 2) _ c rfl
set_option maxRecDepth 100000 in
set_option maxHeartbeats 1600000 in
theorem awake3_any (w : World) : Calls Try.prog 27 #[] w fun e w' => e = .returned (.bool true) ∧ Mod None w w' := by
  have kc := bytes_const
  go_enter Try.func27, Try.ntmps27
  go_wp2_with fail
  refine (live_new w w (Mod.refl _ _) 2 2 (by omega)).mono ?_
  rintro e w1 ⟨p, S, rfl, hl, _, _⟩
  have HL : Hid (Live w w1 S p aw0) := hid hl
  clear hl
  go_wp2_with fail
  refine (live_write (HL.out.alloc _) 0 _ _ _ [97, 98] rfl (rd_lit _ _ _ rfl _ _ rfl) (by decide) aww.1).mono ?_
  rintro e w2 ⟨S2, rfl, hl, _⟩
  rw [aw0w]
  have HL2 : Hid (Live w w2 S2 p aw1) := hid hl
  clear hl HL
  go_wp2_with fail
  refine (live_write (HL2.out.alloc _) 0 _ _ _ [99, 100] rfl (rd_lit _ _ _ rfl _ _ rfl) (by decide) aww.2.1).mono ?_
  rintro e w3 ⟨S3, rfl, hl, _⟩
  rw [aw1w]
  have HL3 : Hid (Live w w3 S3 p aw2) := hid hl
  clear hl HL2
  go_wp2_with fail
  refine (live_read HL3.out 0).mono ?_
  rintro e w4 ⟨a1, rfl, _, hs, hl, _⟩
  rw [aw2r.1, aw2r.2.1]
  have HS1 := hid hs
  have HL4 : Hid (Live w w4 S3 p aw2) := hid hl
  clear hl hs HL3
  go_wp2_with fail
  refine (live_crash HL4.out 1 1).mono ?_
  rintro e w5 ⟨S5, rfl, hl, ht⟩
  have HS2 := hid (HS1.out.turn ht)
  have HL5 : Hid (Live w w5 S5 p aw3) := hid hl
  clear hl ht HS1 HL4
  go_wp2_with fail
  refine (live_read HL5.out 0).mono ?_
  rintro e w6 ⟨a2, rfl, _, hs, hl, hm⟩
  rw [aw3r.1, aw3r.2.1]
  have HS3 := hid (HS2.out.turn (.same (hm.mono (fun _ _ h => h.elim))))
  have HS4 := hid hs
  have HL6 : Hid (Live w w6 S5 p aw3) := hid hl
  clear hl hs hm HS2 HL5
  go_wp2_with fail
  refine (live_arm HL6.out 1 (by omega)).mono ?_
  rintro e w7 ⟨S7, rfl, hl, ht⟩
  have HS5 := hid (HS3.out.turn ht)
  have HS6 := hid (HS4.out.turn ht)
  have HL7 : Hid (Live w w7 S7 p aw4) := hid hl
  clear hl ht HS3 HS4 HL6
  go_wp2_with fail
  refine (live_write HL7.out 1 _ _ _ [] rfl (.inl rfl) (by decide) aww.2.2).mono ?_
  rintro e w8 ⟨S8, rfl, hl, ht⟩
  rw [aw4w]
  have HS7 := hid (HS5.out.turn ht)
  have HS8 := hid (HS6.out.turn ht)
  have HL8 : Hid (Live w w8 S8 p aw5) := hid hl
  clear hl ht HS5 HS6 HL7
  go_wp2_with fail
  refine (live_read HL8.out 0).mono ?_
  rintro e w9 ⟨a3, rfl, _, _, hl, hm⟩
  rw [aw5r]
  have hc1 : (convert 27 9 (.slice a1 2 64)).run Try.prog w9 = .ok (.string { data := #[99, 100] }) w9 := eq_lit 2 aw2r.2.2 rfl (HS7.out.turn (.same (hm.mono (fun _ _ h => h.elim)))) _
  have hc2 : (convert 27 9 (.slice a2 2 64)).run Try.prog w9 = .ok (.string { data := #[99, 98] }) w9 := eq_lit 2 aw3r.2.2 rfl (HS8.out.turn (.same (hm.mono (fun _ _ h => h.elim)))) _
  have HL9 : Hid (Live w w9 S8 p aw5) := hid hl
  clear hl hm HS7 HS8 HL8
  go_wp2_with fail
  refine (live_down HL9.out).mono ?_
  rintro e w10 ⟨rfl, rfl⟩
  rw [aw5d]
  go_wp2_with fail
  go_ret
  exact ⟨rfl, HL9.out.2.1⟩
end Go.Proofs.Ytdhhpnfdnoaihaa

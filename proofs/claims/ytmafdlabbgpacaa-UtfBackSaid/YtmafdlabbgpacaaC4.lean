/- The document's Put. -/
import Derived.Test.YtmafdlabbgpacaaC3
namespace Go.Proofs.Ytmafdlabbgpacaa
open Go.RowKit

def runeB (r : Int) : Bool := decide (0 ≤ r ∧ r ≤ 1114111 ∧ (r < 55296 ∨ 57343 < r))
theorem rune_any (w : World) (r : Int) : Calls Try.prog 25 #[.int .i32 r] w fun e w' => e = .returned (.bool (runeB r)) ∧ w = w' := by
  by_cases h0 : 0 ≤ r
  · by_cases h1 : r ≤ 1114111
    · by_cases h2 : r < 55296
      · have h : runeB r = true := by unfold runeB; rw [decide_eq_true_eq]; omega
        rw [h]; clear h
        go_enter Try.func25, Try.ntmps25
        go_wp2
        go_ret
        exact ⟨rfl, rfl⟩
      · by_cases h3 : 57343 < r
        · have h : runeB r = true := by unfold runeB; rw [decide_eq_true_eq]; omega
          rw [h]; clear h
          go_enter Try.func25, Try.ntmps25
          go_wp2
          go_ret
          exact ⟨rfl, rfl⟩
        · have h : runeB r = false := by unfold runeB; rw [decide_eq_false_iff_not]; omega
          rw [h]; clear h
          go_enter Try.func25, Try.ntmps25
          go_wp2
          go_ret
          exact ⟨rfl, rfl⟩
    · have h : runeB r = false := by unfold runeB; rw [decide_eq_false_iff_not]; omega
      rw [h]; clear h
      go_enter Try.func25, Try.ntmps25
      go_wp2
      go_ret
      exact ⟨rfl, rfl⟩
  · have h : runeB r = false := by unfold runeB; rw [decide_eq_false_iff_not]; omega
    rw [h]; clear h
    go_enter Try.func25, Try.ntmps25
    go_wp2
    go_ret
    exact ⟨rfl, rfl⟩
set_option maxHeartbeats 400000 in
theorem bits6_5 (w : World) (r : Int) (h0 : 0 ≤ r) (h1 : r ≤ 1114111) (d : Int) (hd : r / 64 % 32 = d) :
    Calls Try.prog 26 #[.int .i32 r, .int .u64 6, .int .u64 5] w fun e w' => e = .returned (.int .u8 d) ∧ w = w' := by
  subst hd
  go_enter Try.func26, Try.ntmps26
  go_wp2
  go_ret
  exact ⟨rfl, rfl⟩
set_option maxHeartbeats 400000 in
theorem bits0_6 (w : World) (r : Int) (h0 : 0 ≤ r) (h1 : r ≤ 1114111) (d : Int) (hd : r % 64 = d) :
    Calls Try.prog 26 #[.int .i32 r, .int .u64 0, .int .u64 6] w fun e w' => e = .returned (.int .u8 d) ∧ w = w' := by
  subst hd
  go_enter Try.func26, Try.ntmps26
  go_wp2
  go_ret
  exact ⟨rfl, rfl⟩
set_option maxHeartbeats 400000 in
theorem bits12_4 (w : World) (r : Int) (h0 : 0 ≤ r) (h1 : r ≤ 1114111) (d : Int) (hd : r / 4096 % 16 = d) :
    Calls Try.prog 26 #[.int .i32 r, .int .u64 12, .int .u64 4] w fun e w' => e = .returned (.int .u8 d) ∧ w = w' := by
  subst hd
  go_enter Try.func26, Try.ntmps26
  go_wp2
  go_ret
  exact ⟨rfl, rfl⟩
set_option maxHeartbeats 400000 in
theorem bits6_6 (w : World) (r : Int) (h0 : 0 ≤ r) (h1 : r ≤ 1114111) (d : Int) (hd : r / 64 % 64 = d) :
    Calls Try.prog 26 #[.int .i32 r, .int .u64 6, .int .u64 6] w fun e w' => e = .returned (.int .u8 d) ∧ w = w' := by
  subst hd
  go_enter Try.func26, Try.ntmps26
  go_wp2
  go_ret
  exact ⟨rfl, rfl⟩
set_option maxHeartbeats 400000 in
theorem bits18_3 (w : World) (r : Int) (h0 : 0 ≤ r) (h1 : r ≤ 1114111) (d : Int) (hd : r / 262144 % 8 = d) :
    Calls Try.prog 26 #[.int .i32 r, .int .u64 18, .int .u64 3] w fun e w' => e = .returned (.int .u8 d) ∧ w = w' := by
  subst hd
  go_enter Try.func26, Try.ntmps26
  go_wp2
  go_ret
  exact ⟨rfl, rfl⟩
set_option maxHeartbeats 400000 in
theorem bits12_6 (w : World) (r : Int) (h0 : 0 ≤ r) (h1 : r ≤ 1114111) (d : Int) (hd : r / 4096 % 64 = d) :
    Calls Try.prog 26 #[.int .i32 r, .int .u64 12, .int .u64 6] w fun e w' => e = .returned (.int .u8 d) ∧ w = w' := by
  subst hd
  go_enter Try.func26, Try.ntmps26
  go_wp2
  go_ret
  exact ⟨rfl, rfl⟩
/-- bytes that are told -/
def SPost (l : List UInt8) (w : World) (e : Ending) (w' : World) : Prop := ∃ a c, e = .returned (.slice a l.length c) ∧ Rd w' a l ∧ Mod None w w'
theorem lit_rd (w : World) (l : List UInt8) (C : Array Value) (hC : C = (l.map B).toArray) (q : Nat) (hq : q = w.heap.size) : Rd (w.alloc (.cells C 5)) (some ⟨q, 0, none⟩) l := by
  subst hC hq
  exact (Blk.new w 5 _).rdv 0 (fun i _ => by rw [Nat.zero_add])
set_option maxRecDepth 100000 in
set_option maxHeartbeats 1600000 in
theorem refput_any (w : World) (r : Int) : Calls Try.prog 17 #[.int .i32 r] w (SPost (putL r) w) := by
  by_cases hr : runeB r = true
  · have hrr := hr
    unfold runeB at hrr
    rw [decide_eq_true_eq] at hrr
    obtain ⟨h0, h1, h2⟩ := hrr
    have HB := hid (show ¬ (r < 0 ∨ 1114111 < r ∨ (55296 ≤ r ∧ r ≤ 57343)) by omega)
    have HR := hid hr
    clear hr h2
    by_cases c1 : r < 128
    · skip
      have HP := hid (show putL r = [by8 r] by unfold putL; rw [if_neg HB.out, if_pos c1])
      have HV0 := hid (B8 (r) (by omega) (by omega))
      go_enter Try.func17, Try.ntmps17
      go_wp2_with fail
      refine (rune_any _ _).mono ?_
      rintro e w1 ⟨rfl, rfl⟩
      rw [HR.out]
      go_wp2_with fail
      go_ret
      rw [HP.out]
      exact ⟨_, _, rfl, lit_rd w _ _ (by simp only [List.map_cons, List.map_nil, HV0.out]) _ rfl, (Mod.refl _ _).alloc _⟩
    by_cases c2 : r < 2048
    · skip
      have HP := hid (show putL r = [by8 (192 + r / 64), by8 (128 + r % 64)] by unfold putL; rw [if_neg HB.out, if_neg c1, if_pos c2])
      have HV0 := hid (B8 (192 + r / 64) (by omega) (by omega))
      have HV1 := hid (B8 (128 + r % 64) (by omega) (by omega))
      go_enter Try.func17, Try.ntmps17
      go_wp2_with fail
      refine (rune_any _ _).mono ?_
      rintro e w1 ⟨rfl, rfl⟩
      rw [HR.out]
      go_wp2_with fail
      refine (bits6_5 _ r h0 h1 (r / 64) (by omega)).mono ?_
      rintro e w1 ⟨rfl, rfl⟩
      go_wp2_with fail
      refine (bits0_6 _ r h0 h1 (r % 64) (by omega)).mono ?_
      rintro e w1 ⟨rfl, rfl⟩
      go_wp2_with fail
      go_ret
      rw [HP.out]
      exact ⟨_, _, rfl, lit_rd w _ _ (by simp only [List.map_cons, List.map_nil, HV0.out, HV1.out]) _ rfl, (Mod.refl _ _).alloc _⟩
    by_cases c3 : r < 65536
    · skip
      have HP := hid (show putL r = [by8 (224 + r / 4096), by8 (128 + r / 64 % 64), by8 (128 + r % 64)] by unfold putL; rw [if_neg HB.out, if_neg c1, if_neg c2, if_pos c3])
      have HV0 := hid (B8 (224 + r / 4096) (by omega) (by omega))
      have HV1 := hid (B8 (128 + r / 64 % 64) (by omega) (by omega))
      have HV2 := hid (B8 (128 + r % 64) (by omega) (by omega))
      go_enter Try.func17, Try.ntmps17
      go_wp2_with fail
      refine (rune_any _ _).mono ?_
      rintro e w1 ⟨rfl, rfl⟩
      rw [HR.out]
      go_wp2_with fail
      refine (bits12_4 _ r h0 h1 (r / 4096) (by omega)).mono ?_
      rintro e w1 ⟨rfl, rfl⟩
      go_wp2_with fail
      refine (bits6_6 _ r h0 h1 (r / 64 % 64) (by omega)).mono ?_
      rintro e w1 ⟨rfl, rfl⟩
      go_wp2_with fail
      refine (bits0_6 _ r h0 h1 (r % 64) (by omega)).mono ?_
      rintro e w1 ⟨rfl, rfl⟩
      go_wp2_with fail
      go_ret
      rw [HP.out]
      exact ⟨_, _, rfl, lit_rd w _ _ (by simp only [List.map_cons, List.map_nil, HV0.out, HV1.out, HV2.out]) _ rfl, (Mod.refl _ _).alloc _⟩
    · skip
      have HP := hid (show putL r = [by8 (240 + r / 262144), by8 (128 + r / 4096 % 64), by8 (128 + r / 64 % 64), by8 (128 + r % 64)] by unfold putL; rw [if_neg HB.out, if_neg c1, if_neg c2, if_neg c3])
      have HV0 := hid (B8 (240 + r / 262144) (by omega) (by omega))
      have HV1 := hid (B8 (128 + r / 4096 % 64) (by omega) (by omega))
      have HV2 := hid (B8 (128 + r / 64 % 64) (by omega) (by omega))
      have HV3 := hid (B8 (128 + r % 64) (by omega) (by omega))
      go_enter Try.func17, Try.ntmps17
      go_wp2_with fail
      refine (rune_any _ _).mono ?_
      rintro e w1 ⟨rfl, rfl⟩
      rw [HR.out]
      go_wp2_with fail
      refine (bits18_3 _ r h0 h1 (r / 262144) (by omega)).mono ?_
      rintro e w1 ⟨rfl, rfl⟩
      go_wp2_with fail
      refine (bits12_6 _ r h0 h1 (r / 4096 % 64) (by omega)).mono ?_
      rintro e w1 ⟨rfl, rfl⟩
      go_wp2_with fail
      refine (bits6_6 _ r h0 h1 (r / 64 % 64) (by omega)).mono ?_
      rintro e w1 ⟨rfl, rfl⟩
      go_wp2_with fail
      refine (bits0_6 _ r h0 h1 (r % 64) (by omega)).mono ?_
      rintro e w1 ⟨rfl, rfl⟩
      go_wp2_with fail
      go_ret
      rw [HP.out]
      exact ⟨_, _, rfl, lit_rd w _ _ (by simp only [List.map_cons, List.map_nil, HV0.out, HV1.out, HV2.out, HV3.out]) _ rfl, (Mod.refl _ _).alloc _⟩
  · have HP := hid (show putL r = [] by
      unfold runeB at hr
      rw [decide_eq_true_eq] at hr
      unfold putL; rw [if_pos (by omega)])
    rw [Bool.not_eq_true] at hr
    have HR := hid hr
    clear hr
    go_enter Try.func17, Try.ntmps17
    go_wp2_with fail
    refine (rune_any _ _).mono ?_
    rintro e w1 ⟨rfl, rfl⟩
    rw [HR.out]
    go_wp2_with fail
    go_ret
    rw [HP.out]
    exact ⟨none, 0, rfl, .inl rfl, Mod.refl _ _⟩
end Go.Proofs.Ytmafdlabbgpacaa

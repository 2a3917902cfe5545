/- Letter and NameRune, of whatever number. -/
import Derived.Test.YtmafdlabbgpacaaC11
namespace Go.Proofs.Ytmafdlabbgpacaa
open Go.RowKit

def letterB (r : Int) : Bool := decide ((65 ≤ r ∧ r ≤ 90) ∨ (97 ≤ r ∧ r ≤ 122) ∨ r = 95 ∨ (128 ≤ r ∧ charB r = true))
def nameB (r : Int) : Bool := letterB r || decide ((48 ≤ r ∧ r ≤ 57) ∨ r = 45 ∨ r = 46)
set_option maxHeartbeats 400000 in
theorem letter_any (w : World) (r : Int) : Calls Try.prog 20 #[.int .i32 r] w fun e w' => e = .returned (.bool (letterB r)) ∧ Mod None w w' := by
  have HL := hid (show letterB r = decide ((65 ≤ r ∧ r ≤ 90) ∨ (97 ≤ r ∧ r ≤ 122) ∨ r = 95 ∨ (128 ≤ r ∧ charB r = true)) from rfl)
  by_cases h : 128 ≤ r
  · have hl : letterB r = charB r := by
      rw [HL.out]
      have e1 : ¬ (65 ≤ r ∧ r ≤ 90) := by omega
      have e2 : ¬ (97 ≤ r ∧ r ≤ 122) := by omega
      have e3 : ¬ r = 95 := by omega
      simp [e1, e2, e3, h]
    have HM := hid hl
    clear hl HL
    have h1 : ¬ r ≤ 90 := by omega
    have h2 : ¬ r ≤ 122 := by omega
    have h3 : ¬ r = 95 := by omega
    have h0 : 65 ≤ r := by omega
    have h00 : 97 ≤ r := by omega
    go_enter Try.func20, Try.ntmps20
    go_wp2_with fail
    refine (char_any w r).mono ?_
    rintro e w1 ⟨rfl, hm⟩
    have HMM := hid hm
    clear hm
    go_wp2_with fail
    go_ret
    refine ⟨?_, HMM.out⟩
    rw [HM.out]
    cases charB r <;> simp [*]
  · have hl : letterB r = decide ((65 ≤ r ∧ r ≤ 90) ∨ (97 ≤ r ∧ r ≤ 122) ∨ r = 95) := by rw [HL.out]; simp [h]
    have HM := hid hl
    clear hl HL
    go_enter Try.func20, Try.ntmps20
    go_wp2_with fail
    all_goals
      go_ret
      refine ⟨?_, Mod.refl _ _⟩
      first | rw [HM.out] | skip
      first | (simp [*]; done) | (simp [*]; rw [Bool.eq_iff_iff]; simp; omega) | (simp [*]; omega) | (simp [letterB]; done) | (simp [letterB]; omega)
set_option maxHeartbeats 400000 in
theorem refletter_any (w : World) (r : Int) : Calls Try.prog 21 #[.int .i32 r] w fun e w' => e = .returned (.bool (letterB r)) ∧ w = w' := by
  have HL := hid (show letterB r = decide ((65 ≤ r ∧ r ≤ 90) ∨ (97 ≤ r ∧ r ≤ 122) ∨ r = 95 ∨ (128 ≤ r ∧ charB r = true)) from rfl)
  by_cases h : 128 ≤ r
  · have hl : letterB r = charB r := by
      rw [HL.out]
      have e1 : ¬ (65 ≤ r ∧ r ≤ 90) := by omega
      have e2 : ¬ (97 ≤ r ∧ r ≤ 122) := by omega
      have e3 : ¬ r = 95 := by omega
      simp [e1, e2, e3, h]
    have HM := hid hl
    clear hl HL
    have h1 : ¬ r ≤ 90 := by omega
    have h2 : ¬ r ≤ 122 := by omega
    have h3 : ¬ r = 95 := by omega
    have h0 : 65 ≤ r := by omega
    have h00 : 97 ≤ r := by omega
    go_enter Try.func21, Try.ntmps21
    go_wp2_with fail
    refine (refchar_any w r).mono ?_
    rintro e w1 ⟨rfl, rfl⟩
    go_wp2_with fail
    go_ret
    refine ⟨?_, rfl⟩
    rw [HM.out]
    cases charB r <;> simp [*]
  · have hl : letterB r = decide ((65 ≤ r ∧ r ≤ 90) ∨ (97 ≤ r ∧ r ≤ 122) ∨ r = 95) := by rw [HL.out]; simp [h]
    have HM := hid hl
    clear hl HL
    go_enter Try.func21, Try.ntmps21
    go_wp2_with fail
    all_goals
      go_ret
      refine ⟨?_, rfl⟩
      first | rw [HM.out] | skip
      first | (simp [*]; done) | (simp [*]; rw [Bool.eq_iff_iff]; simp; omega) | (simp [*]; omega) | (simp [letterB]; done) | (simp [letterB]; omega)
set_option maxHeartbeats 400000 in
theorem name_any (w : World) (r : Int) : Calls Try.prog 22 #[.int .i32 r] w fun e w' => e = .returned (.bool (nameB r)) ∧ Mod None w w' := by
  have HL := hid (show nameB r = (letterB r || decide ((48 ≤ r ∧ r ≤ 57) ∨ r = 45 ∨ r = 46)) from rfl)
  go_enter Try.func22, Try.ntmps22
  go_wp2_with fail
  refine (letter_any w r).mono ?_
  rintro e w1 ⟨rfl, hm⟩
  have HMM := hid hm
  clear hm
  generalize letterB r = lb at *
  cases lb
  all_goals
    go_wp2_with fail
  all_goals
    go_ret
    refine ⟨?_, HMM.out⟩
    first | rw [HL.out] | skip
    first | (simp [*]; done) | (simp [*]; rw [Bool.eq_iff_iff]; simp; omega) | (simp [*]; omega) | (have hl := HL.out; simp_all; done)
set_option maxHeartbeats 400000 in
theorem refname_any (w : World) (r : Int) : Calls Try.prog 23 #[.int .i32 r] w fun e w' => e = .returned (.bool (nameB r)) ∧ w = w' := by
  have HL := hid (show nameB r = (letterB r || decide ((48 ≤ r ∧ r ≤ 57) ∨ r = 45 ∨ r = 46)) from rfl)
  go_enter Try.func23, Try.ntmps23
  go_wp2_with fail
  refine (refletter_any w r).mono ?_
  rintro e w1 ⟨rfl, rfl⟩
  generalize letterB r = lb at *
  cases lb
  all_goals
    go_wp2_with fail
  all_goals
    go_ret
    refine ⟨?_, rfl⟩
    first | rw [HL.out] | skip
    first | (simp [*]; done) | (simp [*]; rw [Bool.eq_iff_iff]; simp; omega) | (simp [*]; omega) | (have hl := HL.out; simp_all; done)
end Go.Proofs.Ytmafdlabbgpacaa

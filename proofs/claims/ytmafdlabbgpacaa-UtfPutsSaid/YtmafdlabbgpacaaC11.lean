/- The document's Char, of whatever number. -/
import Derived.Test.YtmafdlabbgpacaaC10
namespace Go.Proofs.Ytmafdlabbgpacaa
open Go.RowKit

set_option maxHeartbeats 400000 in
theorem refchar_any (w : World) (r : Int) : Calls Try.prog 19 #[.int .i32 r] w fun e w' => e = .returned (.bool (charB r)) ∧ w = w' := by
  by_cases hr : runeB r = true
  · have hch : charB r = decide ((r = 9 ∨ r = 10 ∨ r = 13 ∨ 32 ≤ r) ∧ r ≠ 65534 ∧ r ≠ 65535) := by
      unfold charB; rw [hr]; simp
    have HC := hid hch
    have HR := hid hr
    clear hch hr
    by_cases a : r = 65534
    · subst a
      go_enter Try.func19, Try.ntmps19
      go_wp2_with fail
      refine (rune_any w _).mono ?_
      rintro e w1 ⟨rfl, rfl⟩
      rw [HR.out]
      go_wp2_with fail
      go_ret
      exact ⟨by rw [HC.out]; rfl, rfl⟩
    by_cases b : r = 65535
    · subst b
      go_enter Try.func19, Try.ntmps19
      go_wp2_with fail
      refine (rune_any w _).mono ?_
      rintro e w1 ⟨rfl, rfl⟩
      rw [HR.out]
      go_wp2_with fail
      go_ret
      exact ⟨by rw [HC.out]; rfl, rfl⟩
    have h' : r = 9 ∨ r = 10 ∨ r = 13 ∨ 32 ≤ r ∨ (¬ r = 9 ∧ ¬ r = 10 ∧ ¬ r = 13 ∧ ¬ 32 ≤ r) := by omega
    rcases h' with rfl | rfl | rfl | h | ⟨h1, h2, h3, h4⟩
    all_goals
      go_enter Try.func19, Try.ntmps19
      go_wp2_with fail
      refine (rune_any w _).mono ?_
      rintro e w1 ⟨rfl, rfl⟩
      rw [HR.out]
      go_wp2_with fail
      go_ret
      refine ⟨?_, rfl⟩
      rw [HC.out]
      first | (simp [*]; done) | (simp [*]; rw [Bool.eq_iff_iff]; simp; omega)
  · rw [Bool.not_eq_true] at hr
    have hch : charB r = false := by unfold charB; rw [hr]; simp
    have HC := hid hch
    have HR := hid hr
    clear hch hr
    go_enter Try.func19, Try.ntmps19
    go_wp2_with fail
    refine (rune_any w _).mono ?_
    rintro e w1 ⟨rfl, rfl⟩
    rw [HR.out]
    go_wp2_with fail
    go_ret
    exact ⟨by rw [HC.out]; rfl, rfl⟩
end Go.Proofs.Ytmafdlabbgpacaa

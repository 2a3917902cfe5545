/- Char, of whatever number. -/
import Derived.Test.YtmafdlabbgpacaaC9
namespace Go.Proofs.Ytmafdlabbgpacaa
open Go.RowKit

def charB (r : Int) : Bool := decide ((r = 9 ∨ r = 10 ∨ r = 13 ∨ 32 ≤ r) ∧ runeB r = true ∧ r ≠ 65534 ∧ r ≠ 65535)
theorem put_nil (r : Int) : (putL r != []) = runeB r := by
  unfold putL runeB
  by_cases h : r < 0 ∨ 1114111 < r ∨ (55296 ≤ r ∧ r ≤ 57343)
  · rw [if_pos h]
    have : ¬ (0 ≤ r ∧ r ≤ 1114111 ∧ (r < 55296 ∨ 57343 < r)) := by omega
    rw [decide_eq_false this]; rfl
  · rw [if_neg h]
    have : (0 ≤ r ∧ r ≤ 1114111 ∧ (r < 55296 ∨ 57343 < r)) := by omega
    rw [decide_eq_true this]
    split
    · rfl
    · split
      · rfl
      · split <;> rfl
set_option maxHeartbeats 400000 in
theorem char_any (w : World) (r : Int) : Calls Try.prog 18 #[.int .i32 r] w fun e w' => e = .returned (.bool (charB r)) ∧ Mod None w w' := by
  have hn := put_nil r
  have HN := hid hn
  clear hn
  by_cases h : r = 9 ∨ r = 10 ∨ r = 13 ∨ 32 ≤ r
  · have hch : charB r = (runeB r && (decide (r ≠ 65534) && decide (r ≠ 65535))) := by
      unfold charB
      rw [Bool.eq_iff_iff]
      simp [h]
    rw [← put_nil] at hch
    have HC := hid hch
    clear hch
    have HH := hid h
    have h' : r = 9 ∨ r = 10 ∨ r = 13 ∨ (¬ r = 9 ∧ ¬ r = 10 ∧ ¬ r = 13 ∧ 32 ≤ r) := by omega
    clear h
    rcases h' with rfl | rfl | rfl | ⟨_, _, _, _⟩
    all_goals
      go_enter Try.func18, Try.ntmps18
      go_wp2_with fail
      refine (put_any w _).mono ?_
      rintro e w1 ⟨rfl, hm⟩
      have HM := hid hm
      clear hm
      unfold Str
      go_wp2_with fail
    all_goals
      go_ret
      refine ⟨?_, HM.out⟩
      rw [HC.out]
      clear HC HN HH HM
      generalize putL _ = pl at *
      cases pl <;> first | (simp_all [bne]; done) | (by_cases h5 : r = 65535 <;> simp_all [bne])
  · have hch : charB r = false := by unfold charB; rw [decide_eq_false_iff_not]; exact fun x => h x.1
    have HC := hid hch
    clear hch
    have h1 : ¬ r = 9 := by omega
    have h2 : ¬ r = 10 := by omega
    have h3 : ¬ r = 13 := by omega
    have h4 : ¬ 32 ≤ r := by omega
    clear h
    go_enter Try.func18, Try.ntmps18
    go_wp2_with fail
    go_ret
    rw [HC.out]
    exact ⟨rfl, Mod.refl _ _⟩
end Go.Proofs.Ytmafdlabbgpacaa

/- The document's Bad; Place, Line, Column. -/
import Derived.Test.YtmafdlabbgpacaaC5
namespace Go.Proofs.Ytmafdlabbgpacaa
open Go.RowKit

set_option maxRecDepth 100000 in
set_option maxHeartbeats 800000 in
theorem refbad_any (w : World) (s : ByteArray) (hs : s.size ≤ 140737488351232) : Calls Try.prog 12 #[.string s] w (BPost (badL s.data.toList) w) := by
  have hlen : s.data.toList.length = s.size := Array.length_toList
  have HL := hid hlen
  clear hlen
  go_enter Try.func12, Try.ntmps12
  go_wp2
  go_loopw [3] (fun i wr => ∃ k : Nat, k ≤ s.size + 4 ∧ i = .int .i64 k ∧ Hid (badRel s.data.toList w wr k)) (fun i _ => s.size + 4 - (intOf i).toNat)
  case atStart => exact ⟨0, by omega, rfl, _, rfl, by omega, Mod.refl _ _⟩
  case round =>
    obtain ⟨k, hk, rfl, hr⟩ := hrel
    by_cases hlt : k < s.size
    · have hlt' : (k : Int) < (s.size : Int) := by omega
      have HK := hid hlt
      go_wp2_with fail
      refine (refnext_any wr s k hs).mono ?_
      rintro e w2 ⟨rfl, hm⟩
      have HM := hid hm
      clear hm
      have hn := next_n s.data.toList k
      have HON := hid (bad_on (w2 := w2) hr.out (by rw [HL.out]; exact HK.out))
      have HHERE := hid (bad_here hr.out (by rw [HL.out]; exact HK.out))
      generalize nextL s.data.toList k = rn at *
      obtain ⟨r, n⟩ := rn
      simp only at hn HON HHERE
      by_cases h0 : n = 0
      · subst h0
        go_wp2_with fail
        go_ret
        refine ⟨?_, ?_⟩
        · rw [HHERE.out trivial]; rfl
        · obtain ⟨_, _, _, h3⟩ := hr.out; exact h3.trans HM.out
      · obtain ⟨m, rfl⟩ : ∃ m : Nat, n = m := ⟨n.toNat, by omega⟩
        have hr2 := hid (HON.out h0 HM.out)
        rw [Int.toNat_natCast] at hr2
        have hm4 : m ≤ 4 := by omega
        have h0' : 0 < m := by omega
        clear HON HHERE hn hr
        go_wp2_with fail
        go_roundw
        case rel => exact ⟨k + m, by omega, by go_num, hr2.out⟩
        case measure => simp [intOf]; omega
    · have hlt' : ¬ (k : Int) < (s.size : Int) := by omega
      have HB := hid (bad_end hr.out (by rw [HL.out]; exact hlt))
      go_wp2_with fail
      go_ret
      refine ⟨by rw [HB.out]; rfl, ?_⟩
      obtain ⟨_, _, _, h3⟩ := hr.out; exact h3
end Go.Proofs.Ytmafdlabbgpacaa

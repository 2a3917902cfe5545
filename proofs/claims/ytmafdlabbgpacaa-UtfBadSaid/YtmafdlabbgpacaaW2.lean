/- The walk of UtfBad. -/
import Derived.Test.YtmafdlabbgpacaaC9
import Derived.Test.YtmafdlabbgpacaaV1
import Derived.Test.YtmafdlabbgpacaaP2
namespace Go.Proofs.Ytmafdlabbgpacaa
open Go.RowKit

set_option maxRecDepth 100000 in
set_option maxHeartbeats 800000 in
theorem UtfBad_walk (w : World) (s : ByteArray) (hs : s.size ≤ 140737488351232) :
    Calls Try.prog 5 #[.string s] w fun e w' => e = .returned (.bool true) ∧ Below w.heap.size w w' := by
  have HS := hid hs
  have hlen : s.data.toList.length = s.size := Array.length_toList
  have hsome := bad_some s.data.toList
  rcases hsome with hb | ⟨k, hb⟩
  · have HB := hid hb
    clear hb hlen
    go_enter Try.func5, Try.ntmps5
    go_wp2_with fail
    refine (bad_any w s HS.out).mono ?_
    rw [HB.out]
    rintro e w1 ⟨rfl, hm⟩
    have H1 := hid hm
    clear hm
    go_wp2_with fail
    refine (awake7_any w1).mono ?_
    rintro e w2 ⟨rfl, hm⟩
    have H2 := hid hm
    clear hm
    go_wp2_with fail
    refine (refbad_any w2 s HS.out).mono ?_
    rw [HB.out]
    rintro e w3 ⟨rfl, hm⟩
    have H3 := hid hm
    clear hm
    go_wp2_with fail
    go_ret
    exact ⟨by simp, ((H1.out.trans H2.out).trans H3.out).below _ (Nat.le_refl _) (fun _ h => h.elim)⟩
  · obtain ⟨hk, hn, ht1, ht2⟩ := bad_law hb
    rw [hlen] at hk
    have hk' : (k : Int) < (s.size : Int) := by omega
    have hk0 : ¬ (k : Int) = -1 := by omega
    obtain ⟨r1, r2, hr⟩ : ∃ r1 r2, nextL s.data.toList k = (r1, r2) := ⟨_, _, rfl⟩
    rw [hr] at hn
    obtain rfl : r2 = 0 := hn
    obtain ⟨ta, hsa, hta, htan⟩ := slice_to s k (by omega)
    obtain ⟨tb, hsb, htb, htbn⟩ := slice_to s (k + 1) (by omega)
    rw [← hta] at ht1
    rw [← htb] at ht2
    have hza : ta.size ≤ 140737488351232 := by omega
    have hzb : tb.size ≤ 140737488351232 := by omega
    have e1 : (((k + 1 : Nat)) : Int) = (k : Int) + 1 := rfl
    rw [e1] at hsb
    have HA := hid hza
    have HZB := hid hzb
    have HB := hid hb
    have HR := hid hr
    have HT1 := hid ht1
    have HT2 := hid ht2
    clear hza hzb hb hr ht1 ht2 hta htb htan htbn hlen e1
    go_enter Try.func5, Try.ntmps5
    go_wp2_with fail
    refine (bad_any w s HS.out).mono ?_
    rw [HB.out]
    rintro e w1 ⟨rfl, hm⟩
    have H1 := hid hm
    clear hm
    go_wp2_with fail
    refine (awake7_any w1).mono ?_
    rintro e w2 ⟨rfl, hm⟩
    have H2 := hid hm
    clear hm
    go_wp2_with fail
    refine (next_any w2 s k HS.out).mono ?_
    rw [HR.out]
    rintro e w3 ⟨rfl, hm⟩
    have H3 := hid hm
    clear hm
    go_wp2_with fail
    refine (bad_any w3 ta HA.out).mono ?_
    rw [HT1.out]
    rintro e w4 ⟨rfl, hm⟩
    have H4 := hid hm
    clear hm
    go_wp2_with fail
    refine (bad_any w4 tb HZB.out).mono ?_
    rw [HT2.out]
    rintro e w5 ⟨rfl, hm⟩
    have H5 := hid hm
    clear hm
    go_wp2_with fail
    go_ret
    exact ⟨by simp, ((((H1.out.trans H2.out).trans H3.out).trans H4.out).trans H5.out).below _ (Nat.le_refl _) (fun _ h => h.elim)⟩
end Go.Proofs.Ytmafdlabbgpacaa

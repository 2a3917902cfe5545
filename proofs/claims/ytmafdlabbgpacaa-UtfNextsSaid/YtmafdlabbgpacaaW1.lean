/- The walk of UtfNexts. -/
import Derived.Test.YtmafdlabbgpacaaC9
import Derived.Test.YtmafdlabbgpacaaV1
namespace Go.Proofs.Ytmafdlabbgpacaa
open Go.RowKit

set_option maxRecDepth 100000 in
set_option maxHeartbeats 800000 in
theorem UtfNexts_walk (w : World) (s : ByteArray) (hs : s.size ≤ 140737488351232) (a1 : Int) (_ : (Lit.int .i64 a1).wf = true) :
    Calls Try.prog 3 #[.string s, .int .i64 a1] w fun e w' => e = .returned (.bool true) ∧ Below w.heap.size w w' := by
  have HS := hid hs
  clear hs
  go_enter Try.func3, Try.ntmps3
  go_wp2_with fail
  obtain ⟨r1, r2, hr⟩ : ∃ r1 r2, nextL s.data.toList a1 = (r1, r2) := ⟨_, _, rfl⟩
  have HR := hid hr
  clear hr
  refine (next_any w s a1 HS.out).mono ?_
  rw [HR.out]
  rintro e w1 ⟨rfl, hm⟩
  have H1 := hid hm
  clear hm
  go_wp2_with fail
  refine (refnext_any w1 s a1 HS.out).mono ?_
  rw [HR.out]
  rintro e w2 ⟨rfl, hm⟩
  have H2 := hid hm
  clear hm
  go_wp2_with fail
  refine (awake7_any w2).mono ?_
  rintro e w3 ⟨rfl, hm⟩
  have H3 := hid hm
  clear hm
  go_wp2_with fail
  refine (bad_any w3 s HS.out).mono ?_
  rintro e w4 ⟨rfl, hm⟩
  have H4 := hid hm
  clear hm
  go_wp2_with fail
  refine (refbad_any w4 s HS.out).mono ?_
  rintro e w5 ⟨rfl, hm⟩
  have H5 := hid hm
  clear hm
  go_wp2_with fail
  go_ret
  exact ⟨by simp, ((((H1.out.trans H2.out).trans H3.out).trans H4.out).trans H5.out).below _ (Nat.le_refl _) (fun _ h => h.elim)⟩
end Go.Proofs.Ytmafdlabbgpacaa

/- The walk of UtfPuts. -/
import Derived.Test.YtmafdlabbgpacaaC12
import Derived.Test.YtmafdlabbgpacaaC5
import Derived.Test.YtmafdlabbgpacaaV1
namespace Go.Proofs.Ytmafdlabbgpacaa
open Go.RowKit

set_option maxRecDepth 100000 in
set_option maxHeartbeats 800000 in
theorem UtfPuts_walk (w : World) (r : Int) (_ : (Lit.int .i32 r).wf = true) :
    Calls Try.prog 7 #[.int .i32 r] w fun e w' => e = .returned (.bool true) ∧ Below w.heap.size w w' := by
  generalize hp : putL r = p
  generalize hc : charB r = c
  generalize hl : letterB r = l
  generalize hn : nameB r = n
  have hP := put_any w r
  have HP := hid (fun w => put_any w r)
  have HRP := hid (fun w => refput_any w r)
  have HC := hid (fun w => char_any w r)
  have HRC := hid (fun w => refchar_any w r)
  have HL := hid (fun w => letter_any w r)
  have HRL := hid (fun w => refletter_any w r)
  have HN := hid (fun w => name_any w r)
  have HRN := hid (fun w => refname_any w r)
  rw [hp] at HP HRP
  rw [hc] at HC HRC
  rw [hl] at HL HRL
  rw [hn] at HN HRN
  clear hp hc hl hn hP
  go_enter Try.func7, Try.ntmps7
  go_wp2_with fail
  refine (awake7_any w).mono ?_
  rintro e w1 ⟨rfl, hm⟩
  have H1 := hid hm
  clear hm
  go_wp2_with fail
  refine (HP.out w1).mono ?_
  rintro e w2 ⟨rfl, hm⟩
  have H2 := hid hm
  clear hm
  go_wp2_with fail
  refine (HRP.out w2).mono ?_
  rintro e w3 ⟨a, k, rfl, hr, hm⟩
  have H3 := hid hm
  clear hm
  have hs := str_rd hr p.length k rfl
  clear hr
  unfold Str at *
  go_wp2_with fail
  refine (HC.out w3).mono ?_
  rintro e w4 ⟨rfl, hm⟩
  have H4 := hid hm
  clear hm hs
  go_wp2_with fail
  refine (HRC.out w4).mono ?_
  rintro e w5 ⟨rfl, rfl⟩
  go_wp2_with fail
  refine (HL.out w4).mono ?_
  rintro e w6 ⟨rfl, hm⟩
  have H6 := hid hm
  clear hm
  go_wp2_with fail
  refine (HRL.out w6).mono ?_
  rintro e w7 ⟨rfl, rfl⟩
  go_wp2_with fail
  refine (HN.out w6).mono ?_
  rintro e w8 ⟨rfl, hm⟩
  have H8 := hid hm
  clear hm
  go_wp2_with fail
  refine (HRN.out w8).mono ?_
  rintro e w9 ⟨rfl, rfl⟩
  go_wp2_with fail
  go_ret
  exact ⟨by simp, (((((H1.out.trans H2.out).trans H3.out).trans H4.out).trans H6.out).trans H8.out).below _ (Nat.le_refl _) (fun _ h => h.elim)⟩
end Go.Proofs.Ytmafdlabbgpacaa

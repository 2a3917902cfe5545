/- same: an agenda has a list's entries. -/
import Derived.Test.YtekobigoekfckaaT0
import Derived.Test.YtekobigoekfckaaR2
namespace Go.Proofs.Ytekobigoekfckaa
open Go.RowKit

def SamePost (w0 w : World) (S : Nat → Prop) (p : Nat) (s : List Ent) (e : Ending) (w' : World) : Prop := e = .returned (.bool true) ∧ Live w0 w' S p s ∧ Mod None w w'
set_option maxHeartbeats 6400000 in
theorem same_any (w0 w : World) (S : Nat → Prop) (p : Nat) (s : List Ent) (h : Live w0 w S p s) (a : Option Addr) (c n : Nat) (hn : n = s.length) (hr : RdV w a (entC s)) (hfew : s.length ≤ 1000000) :
    Calls Try.prog 11 #[Ptr p, .slice a n c] w (SamePost w0 w S p s) := by
  subst hn
  have HL := hid (live_list h hfew)
  have HR := hid hr
  unfold Ptr LListPost at HL
  clear h hr
  unfold Ptr
  go_enter Try.func11, Try.ntmps11
  go_wp2_with fail
  refine HL.out.mono ?_
  rintro e w1 ⟨la, lc, rfl, hrow, h1, hm1⟩
  have HN := hid (live_len h1)
  have HF := hid (live_first h1)
  have HR1 := hid (hm1.rdv HR.out (fun _ _ h => h))
  have HW := hid hrow.rdv
  have H1 := hid h1
  have HM := hid hm1
  unfold Ptr at HN HF
  clear HL hrow h1 hm1 HR
  go_wp2_with fail
  refine HN.out.mono ?_
  rintro e w2 ⟨rfl, rfl⟩
  go_wp2_with fail
  go_loopw [6] (fun i wr => ∃ (k : Nat) (q : Nat), k ≤ s.length ∧ i = .int .i64 k ∧ wr = w1.drewN q) (fun i _ => s.length - (intOf i).toNat)
  case atStart => exact ⟨0, 0, by omega, rfl, rfl⟩
  case round =>
    obtain ⟨k, q, hk, rfl, rfl⟩ := hrel
    by_cases hlt : k < s.length
    · have hlt' : (k : Int) < (s.length : Int) := by omega
      obtain ⟨b, o, rfl, c1, c2⟩ := rd_ent HR1.out hlt
      obtain ⟨b2, o2, rfl, c3, c4⟩ := rd_ent HW.out hlt
      generalize fn s k = x at *
      have hne : (x.1 != x.1) = false := by simp
      have hne2 : (x.2 != x.2) = false := by simp
      go_wp2_with fail
      go_quiet (fail)
      go_wp2_with fail
      go_roundw
      case rel => exact ⟨k + 1, _, by omega, by go_num, rfl⟩
      case measure => simp [intOf]; omega
    · obtain rfl : k = s.length := by omega
      have hlt' : ¬ ((s.length : Int) < (s.length : Int)) := by omega
      have HF2 := hid (live_first (H1.out.step (Mod.drewN (Mod.refl None w1) q)))
      have HM2 := hid (Mod.drewN HM.out q)
      unfold Ptr SPost at HF2
      cases s with
      | nil =>
        unfold firstL V at HF2
        go_wp2_with fail
        refine HF2.out.mono ?_
        rintro e w4 ⟨rfl, h4, hm4⟩
        have hb := Blk.new w4 36 #[.int .i64 0, .int .i64 0]
        have z0 := hb.is (i := 0) rfl
        have z1 := hb.is (i := 1) rfl
        have HE := hid (fun o q' => show SamePost w0 w S p [] (.returned (.bool true)) ((w4.alloc o).drewN q') from ⟨rfl, h4.step (Mod.drewN ((Mod.refl None w4).alloc o) q'), Mod.drewN ((HM2.out.trans hm4).alloc o) q'⟩)
        clear h4 hm4 hb
        go_wp2_with fail
        go_quiet (fail)
        go_wp2_with fail
        go_ret
        exact HE.out _ _
      | cons x s =>
        obtain ⟨b2, o2, rfl, c3, c4⟩ := rd_ent HW.out (k := 0) (by simp)
        have e0 : fn (x :: s) 0 = x := rfl
        rw [e0, Nat.zero_mul, Nat.add_zero] at c3 c4
        have hpos : (0 : Int) < ((s.length + 1 : Nat) : Int) := by omega
        unfold firstL V at HF2
        go_wp2_with fail
        refine HF2.out.mono ?_
        rintro e w4 ⟨rfl, h4, hm4⟩
        have d3 := ((Mod.drewN (Mod.refl None w1) q).trans hm4).cell0 c3
        have d4 := ((Mod.drewN (Mod.refl None w1) q).trans hm4).cell0 c4
        have hbl := World.block_lt_of_cell? w4 _ d3
        have HE := hid (fun o q' => show SamePost w0 w S p (x :: s) (.returned (.bool true)) ((w4.alloc o).drewN q') from ⟨rfl, h4.step (Mod.drewN ((Mod.refl None w4).alloc o) q'), Mod.drewN ((HM2.out.trans hm4).alloc o) q'⟩)
        clear h4 hm4 c3 c4 e0
        go_wp2_with fail
        go_quiet (fail)
        go_wp2_with fail
        go_ret
        exact HE.out _ _
end Go.Proofs.Ytekobigoekfckaa

/- The walk of CrcBack. -/
import Derived.Test.YtdhhpnfdnoaihaaW1
namespace Go.Proofs.Ytdhhpnfdnoaihaa
open Go.RowKit

theorem beq32 (x y : BitVec 32) : ((x.toNat : Int) == (y.toNat : Int)) = decide (x = y) := by
  rw [Bool.eq_iff_iff]
  simp only [beq_iff_eq, decide_eq_true_eq]
  exact ⟨fun h => BitVec.eq_of_toNat_eq (by omega), fun h => by rw [h]⟩
theorem crun_inj {c d : BitVec 32} (l : List UInt8) : crun c l = crun d l ↔ c = d :=
  ⟨fun h => PCrc.run_inj _ h, fun h => by rw [h]⟩
theorem back_end (c d : BitVec 32) (l : List UInt8) : ((((crun c l).toNat : Int) == ((crun d l).toNat : Int)) == ((c.toNat : Int) == (d.toNat : Int))) = true := by
  rw [beq32, beq32]
  by_cases h : c = d
  · have h' := (crun_inj l).2 h
    simp [h]
  · have h' : crun c l ≠ crun d l := fun x => h ((crun_inj l).1 x)
    simp [h, h']

set_option maxHeartbeats 800000 in
theorem CrcBack_walk (w : World) (a0 : Int) (w0 : (Lit.int .u32 a0).wf = true) (a1 : Int) (w1 : (Lit.int .u32 a1).wf = true) (v2 : Value) (l2 : List UInt8) (w2 : VBytes w v2 l2) :
    Calls Try.prog 7 #[.int .u32 a0, .int .u32 a1, v2] w fun e w' => e = .returned (.bool true) ∧ Below w.heap.size w w' := by
  obtain ⟨c, rfl⟩ := open_u32 w0
  obtain ⟨d, rfl⟩ := open_u32 w1
  obtain ⟨a, cap, rfl, hlen, hrd⟩ := w2
  clear w0 w1
  have HR := hid hrd
  clear hrd
  by_cases hbig : l2.length > 1048576
  · have hb' : (1048576 : Int) < (l2.length : Int) := by omega
    clear hlen
    go_enter Try.func7, Try.ntmps7
    go_wp2_with fail
    refine (awake2_any _).mono ?_
    rintro e w' ⟨rfl, hm⟩
    have HM := hid hm; clear hm
    go_wp2_with fail
    refine (awake2_any _).mono ?_
    rintro e w'' ⟨rfl, hm⟩
    have HM2 := hid hm; clear hm
    go_wp2_with fail
    go_ret
    exact ⟨rfl, (HM.out.trans HM2.out).below _ (Nat.le_refl _) (fun _ h => h.elim)⟩
  · have hb' : ¬ ((1048576 : Int) < (l2.length : Int)) := by omega
    go_enter Try.func7, Try.ntmps7
    go_wp2_with fail
    refine (awake2_any _).mono ?_
    rintro e w' ⟨rfl, hm⟩
    have HR' := hid (hm.rd HR.out (fun _ _ h => h.elim))
    have HM := hid (hm.below _ (Nat.le_refl _) (fun _ h => h.elim))
    clear hm HR
    rcases HR'.out with h | ⟨b, o, rfl, hc⟩
    · obtain rfl : l2 = [] := by simpa using h
      go_wp2_with fail
      refine wp_loop_rounds 1 ?_
      rw [rounds_succ]
      go_wp2
      go_ret
      exact ⟨ret_bool (by simp), HM.out⟩
    · have HC := hid (@Rd.at w' b o l2 hc)
      clear hc HR'
      go_wp2_with fail
      go_loop [7, 8, 9] (fun x y i => ∃ k : Nat, k ≤ l2.length ∧ i = .int .i64 k ∧ x = U32 (crun c (l2.take k)) ∧ y = U32 (crun d (l2.take k))) (fun _ _ i => l2.length - (intOf i).toNat)
      case atStart => exact ⟨0, by omega, rfl, rfl, rfl⟩
      case round =>
        obtain ⟨k, hk, rfl, rfl, rfl⟩ := hrel
        by_cases hlt : k < l2.length
        · have hck := HC.out k hlt
          have HX := hid (crun_take c l2 k hlt)
          have HY := hid (crun_take d l2 k hlt)
          generalize l2[k] = bk at hck HX HY
          generalize crun c (l2.take k) = x at HX ⊢
          generalize crun d (l2.take k) = y at HY ⊢
          unfold U32
          go_wp2_with fail
          refine (step_any x bk _).mono ?_
          rintro e w'' ⟨rfl, rfl⟩
          go_wp2_with fail
          refine (step_any y bk _).mono ?_
          rintro e w'' ⟨rfl, rfl⟩
          go_wp2_with fail
          go_round
          case rel => exact ⟨k + 1, by omega, by go_num, by rw [HX.out], by rw [HY.out]⟩
          case measure => simp [intOf]; omega
        · obtain rfl : k = l2.length := by omega
          have HE := hid (back_end c d (l2.take l2.length))
          generalize crun c (l2.take l2.length) = x at HE ⊢
          generalize crun d (l2.take l2.length) = y at HE ⊢
          unfold U32
          go_wp2
          go_ret
          exact ⟨ret_bool HE.out, HM.out⟩
end Go.Proofs.Ytdhhpnfdnoaihaa

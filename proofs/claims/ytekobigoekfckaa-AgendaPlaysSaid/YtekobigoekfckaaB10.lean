/- The heap's down. -/
import Derived.Test.YtekobigoekfckaaB9
namespace Go.Proofs.Ytekobigoekfckaa
open Go.RowKit

def DownPost (S : Nat → Prop) (p : Nat) (l : List Ent) (N i0 : Nat) (w : World) (e : Ending) (w' : World) : Prop :=
  ∃ l' r, e = .returned (.bool r) ∧ Turned w S p l N w' l' ∧ (r = true → Heap (fn l') N) ∧ (r = false → l' = l ∧ UpOk (fn l) N i0)
/-- where the loop stands -/
def DownAt (S : Nat → Prop) (p : Nat) (l : List Ent) (N i0 i : Nat) (w wr : World) (l' : List Ent) : Prop :=
  Turned w S p l N wr l' ∧ FixOk (fn l') N i ∧ ((i = i0 ∧ l' = l) ∨ (i0 < i ∧ DownOk (fn l') N i))
theorem DownAt.stop {S : Nat → Prop} {p : Nat} {l l' : List Ent} {N i0 i : Nat} {w wr : World} (h : DownAt S p l N i0 i w wr l') (hs : N ≤ 2 * i + 1 ∨ ¬ before (fn l' (child (fn l') N i)) (fn l' i) = true) :
    DownPost S p l N i0 w (.returned (.bool (decide (i0 < i)))) wr := by
  obtain ⟨hT, hF, h | h⟩ := h
  · obtain ⟨rfl, rfl⟩ := h
    refine ⟨l', _, rfl, hT, fun e => by simp at e, fun _ => ⟨rfl, hF.stay hs⟩⟩
  · refine ⟨l', _, rfl, hT, fun _ => h.2.done hs, fun e => ?_⟩
    have : i0 < i := h.1
    simp [this] at e
theorem DownAt.step {S : Nat → Prop} {p : Nat} {l l' : List Ent} {N i0 i c : Nat} {w wr w2 w3 : World} (h : DownAt S p l N i0 i w wr l') (hN : N ≤ l.length) (hc : 2 * i + 1 < N) (hcc : child (fn l') N i = c) (hb : before (fn l' c) (fn l' i) = true)
    (hm : Mod None wr w2) (ha : IsAg w3 S p (swl l' i c)) (hm3 : Mod S w2 w3) : DownAt S p l N i0 c w w3 (swl l' i c) := by
  obtain ⟨hT, hF, h⟩ := h
  subst hcc
  have hl := hT.len
  have hcl := child_lt (f := fn l') hc
  have hD := hF.step hc hb
  rw [← fn_swl l' i _ (by omega) (by omega)] at hD
  have hgt : i < child (fn l') N i := by rcases child_or (fn l') N i with e | e <;> omega
  refine ⟨(hT.same hm).swap (by omega) (by omega) (by omega) hcl ha hm3, hD.fix, .inr ⟨?_, hD⟩⟩
  rcases h with h | h <;> omega
theorem DownAt.still {S : Nat → Prop} {p : Nat} {l l' : List Ent} {N i0 i : Nat} {w wr w2 : World} (h : DownAt S p l N i0 i w wr l') (hm : Mod None wr w2) : DownAt S p l N i0 i w w2 l' := ⟨h.1.same hm, h.2⟩
set_option maxHeartbeats 6400000 in
theorem down_any (w : World) (S : Nat → Prop) (p : Nat) (l : List Ent) (h : IsAg w S p l) (N : Nat) (hN : N ≤ l.length) (i0 : Nat) (hi0 : i0 ≤ l.length) (hu : FixOk (fn l) N i0) (hfew : l.length < 3000000000000) :
    Calls Try.prog 28 #[If p, .int .i64 (i0 : Int), .int .i64 (N : Int)] w (DownPost S p l N i0 w) := by
  have HS := hid (show DownAt S p l N i0 i0 w w l from ⟨Turned.start h N, hu, .inl ⟨rfl, rfl⟩⟩)
  clear hu h
  unfold If
  go_enter Try.func28, Try.ntmps28
  go_wp2_with fail
  go_loopw [7] (fun i wr => ∃ (k : Nat), k ≤ l.length ∧ i = .int .i64 k ∧ Hid (∃ l', DownAt S p l N i0 k w wr l')) (fun i _ => l.length - (intOf i).toNat)
  case atStart => exact ⟨i0, hi0, rfl, ⟨l, HS.out⟩⟩
  case round =>
    obtain ⟨k, hk, rfl, hr⟩ := hrel
    clear HS hi0
    obtain ⟨l', hD⟩ := hr.out
    clear hr
    have hl := hD.1.len
    by_cases hc : 2 * k + 1 < N
    · have hc' : 2 * (k : Int) + 1 < (N : Int) := by omega
      have hc0 : (0 : Int) ≤ 2 * (k : Int) + 1 := by omega
      have HD := hid hD
      by_cases hc2 : 2 * k + 2 < N
      · have hc2' : 2 * (k : Int) + 1 + 1 < (N : Int) := by omega
        have HL1 := hid (show Calls Try.prog 64 #[Ptr p, .int .i64 (2 * (k : Int) + 1 + 1), .int .i64 (2 * (k : Int) + 1)] wr (BPost (fn l' (2 * k + 2)) (fn l' (2 * k + 1)) wr) by
          have := less_any wr S p l' hD.1.ag (2 * k + 2) (2 * k + 1) (by omega) (by omega)
          rwa [show ((2 * k + 2 : Nat) : Int) = 2 * (k : Int) + 1 + 1 by omega, show ((2 * k + 1 : Nat) : Int) = 2 * (k : Int) + 1 by omega] at this)
        by_cases hb2 : before (fn l' (2 * k + 2)) (fn l' (2 * k + 1)) = true
        · have HC := hid (show child (fn l') N k = 2 * k + 2 by unfold child; rw [if_pos ⟨hc2, hb2⟩])
          clear hD
          go_wp2_with fail
          refine HL1.out.mono ?_
          rintro e w2 ⟨rfl, hm⟩
          rw [hb2]
          have HMw2 := hid hm
          clear hm HL1
          have HC' := HC.out
          have HL2 := hid (show Calls Try.prog 64 #[Ptr p, .int .i64 (2 * (k : Int) + 1 + 1), .int .i64 (k : Int)] w2 (BPost (fn l' (2 * k + 2)) (fn l' k) w2) by
            have := less_any w2 S p l' (HD.out.1.same HMw2.out).ag (2 * k + 2) k (by omega) (by omega)
            rwa [show ((2 * k + 2 : Nat) : Int) = 2 * (k : Int) + 1 + 1 by omega] at this)
          by_cases hb : before (fn l' (2 * k + 2)) (fn l' k) = true
          · go_wp2_with fail
            refine HL2.out.mono ?_
            rintro e w3 ⟨rfl, hm⟩
            rw [hb]
            have HM3 := hid (HMw2.out.trans hm)
            clear hm HL2
            have HS := hid (show Calls Try.prog 67 #[Ptr p, .int .i64 (k : Int), .int .i64 (2 * (k : Int) + 1 + 1)] w3 (APost S p (swl l' k (2 * k + 2)) w3) by
              have := swap_any w3 S p l' (HD.out.1.same HM3.out).ag (by unfold maxLen; omega) k (2 * k + 2) (by omega) (by omega)
              rwa [show ((2 * k + 2 : Nat) : Int) = 2 * (k : Int) + 1 + 1 by omega] at this)
            go_wp2_with fail
            refine HS.out.mono ?_
            rintro e w4 ⟨rfl, ha, hm⟩
            have HD2 := hid (HD.out.step hN hc HC' hb HM3.out ha hm)
            clear ha hm HS HM3 HD HC
            go_wp2_with fail
            go_roundw
            case rel => exact ⟨2 * k + 2, by omega, by go_num, _, HD2.out⟩
            case measure => simp [intOf]; omega
          · have HE := hid (fun w3 (hm : Mod None w2 w3) => (HD.out.still (HMw2.out.trans hm)).stop (.inr (by rw [HC']; exact hb)))
            rw [Bool.not_eq_true] at hb
            go_wp2_with fail
            refine HL2.out.mono ?_
            rintro e w3 ⟨rfl, hm⟩
            rw [hb]
            have HE2 := hid (HE.out w3 hm)
            clear hm HL2 HE HD
            go_wp2_with fail
            go_ret
            exact HE2.out
        · have HC := hid (show child (fn l') N k = 2 * k + 1 by unfold child; rw [if_neg (fun h => hb2 h.2)])
          rw [Bool.not_eq_true] at hb2
          clear hD
          go_wp2_with fail
          refine HL1.out.mono ?_
          rintro e w2 ⟨rfl, hm⟩
          rw [hb2]
          have HMw2 := hid hm
          clear hm HL1
          have HC' := HC.out
          have HL2 := hid (show Calls Try.prog 64 #[Ptr p, .int .i64 (2 * (k : Int) + 1), .int .i64 (k : Int)] w2 (BPost (fn l' (2 * k + 1)) (fn l' k) w2) by
            have := less_any w2 S p l' (HD.out.1.same HMw2.out).ag (2 * k + 1) k (by omega) (by omega)
            rwa [show ((2 * k + 1 : Nat) : Int) = 2 * (k : Int) + 1 by omega] at this)
          by_cases hb : before (fn l' (2 * k + 1)) (fn l' k) = true
          · go_wp2_with fail
            refine HL2.out.mono ?_
            rintro e w3 ⟨rfl, hm⟩
            rw [hb]
            have HM3 := hid (HMw2.out.trans hm)
            clear hm HL2
            have HS := hid (show Calls Try.prog 67 #[Ptr p, .int .i64 (k : Int), .int .i64 (2 * (k : Int) + 1)] w3 (APost S p (swl l' k (2 * k + 1)) w3) by
              have := swap_any w3 S p l' (HD.out.1.same HM3.out).ag (by unfold maxLen; omega) k (2 * k + 1) (by omega) (by omega)
              rwa [show ((2 * k + 1 : Nat) : Int) = 2 * (k : Int) + 1 by omega] at this)
            go_wp2_with fail
            refine HS.out.mono ?_
            rintro e w4 ⟨rfl, ha, hm⟩
            have HD2 := hid (HD.out.step hN hc HC' hb HM3.out ha hm)
            clear ha hm HS HM3 HD HC
            go_wp2_with fail
            go_roundw
            case rel => exact ⟨2 * k + 1, by omega, by go_num, _, HD2.out⟩
            case measure => simp [intOf]; omega
          · have HE := hid (fun w3 (hm : Mod None w2 w3) => (HD.out.still (HMw2.out.trans hm)).stop (.inr (by rw [HC']; exact hb)))
            rw [Bool.not_eq_true] at hb
            go_wp2_with fail
            refine HL2.out.mono ?_
            rintro e w3 ⟨rfl, hm⟩
            rw [hb]
            have HE2 := hid (HE.out w3 hm)
            clear hm HL2 HE HD
            go_wp2_with fail
            go_ret
            exact HE2.out
      · have hc2' : ¬ (2 * (k : Int) + 1 + 1 < (N : Int)) := by omega
        have HC := hid (show child (fn l') N k = 2 * k + 1 by unfold child; rw [if_neg (fun h => hc2 h.1)])
        have HMwr := hid (Mod.refl None wr)
        clear hD
        have HC' := HC.out
        have HL2 := hid (show Calls Try.prog 64 #[Ptr p, .int .i64 (2 * (k : Int) + 1), .int .i64 (k : Int)] wr (BPost (fn l' (2 * k + 1)) (fn l' k) wr) by
          have := less_any wr S p l' (HD.out.1.same HMwr.out).ag (2 * k + 1) k (by omega) (by omega)
          rwa [show ((2 * k + 1 : Nat) : Int) = 2 * (k : Int) + 1 by omega] at this)
        by_cases hb : before (fn l' (2 * k + 1)) (fn l' k) = true
        · go_wp2_with fail
          refine HL2.out.mono ?_
          rintro e w3 ⟨rfl, hm⟩
          rw [hb]
          have HM3 := hid (HMwr.out.trans hm)
          clear hm HL2
          have HS := hid (show Calls Try.prog 67 #[Ptr p, .int .i64 (k : Int), .int .i64 (2 * (k : Int) + 1)] w3 (APost S p (swl l' k (2 * k + 1)) w3) by
            have := swap_any w3 S p l' (HD.out.1.same HM3.out).ag (by unfold maxLen; omega) k (2 * k + 1) (by omega) (by omega)
            rwa [show ((2 * k + 1 : Nat) : Int) = 2 * (k : Int) + 1 by omega] at this)
          go_wp2_with fail
          refine HS.out.mono ?_
          rintro e w4 ⟨rfl, ha, hm⟩
          have HD2 := hid (HD.out.step hN hc HC' hb HM3.out ha hm)
          clear ha hm HS HM3 HD HC
          go_wp2_with fail
          go_roundw
          case rel => exact ⟨2 * k + 1, by omega, by go_num, _, HD2.out⟩
          case measure => simp [intOf]; omega
        · have HE := hid (fun w3 (hm : Mod None wr w3) => (HD.out.still (HMwr.out.trans hm)).stop (.inr (by rw [HC']; exact hb)))
          rw [Bool.not_eq_true] at hb
          go_wp2_with fail
          refine HL2.out.mono ?_
          rintro e w3 ⟨rfl, hm⟩
          rw [hb]
          have HE2 := hid (HE.out w3 hm)
          clear hm HL2 HE HD
          go_wp2_with fail
          go_ret
          exact HE2.out
    · have hc' : ¬ (2 * (k : Int) + 1 < (N : Int)) := by omega
      have HE := hid (hD.stop (.inl (by omega)))
      clear hD
      go_wp2_with fail
      go_ret
      exact HE.out
end Go.Proofs.Ytekobigoekfckaa

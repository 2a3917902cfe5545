/- The sectors of some bytes, one by one. -/
import Derived.RangeFuncNested
import Derived.RangeFuncBound
import Derived.RangeFuncCalls
import Derived.RangeFuncLeaves
import Derived.Shelf.Abstract
import Derived.Shelf.RegionOpen
import Derived.OwnWalkIn
import Derived.TacticsInMore
import Derived.LoopNIn
import Derived.LoopIn
import Derived.Deep.Cut
import Derived.Test.YtdhhpnfdnoaihaaJ4
namespace Go.Proofs.Ytdhhpnfdnoaihaa
open Go.RowKit

theorem rd_if {w : World} {a : Option Addr} {l : List UInt8} (h : Rd w a l) {c : Nat} (hc : c ≤ l.length) (hl : l.length ≤ 140737488351232) {vc : Nat} (hcap : l.length ≤ vc) : Rd w (if vc = c then a else a.map (·.add c)) (l.drop c) := by
  obtain ⟨a', k', e, hr, _⟩ := part_drop h hc hl hcap
  injection e with e1
  rw [e1]; exact hr
theorem drop_at (f : List UInt8) (k m : Nat) {L : Nat} (hL : f.length - 64 * k = L) (hm : m ≤ L) (h64 : m ≤ 64) (hd : f.length - 64 * (k + 1) = L - m) : f.drop (64 * (k + 1)) = (f.drop (64 * k)).drop m := by
  rw [List.drop_drop]
  by_cases h : L ≤ 64
  · rw [List.drop_eq_nil_of_le (by omega), List.drop_eq_nil_of_le (by omega)]
  · rw [show 64 * (k + 1) = 64 * k + m by omega]
set_option maxRecDepth 100000 in
set_option maxHeartbeats 1600000 in
theorem iter_in (l bj ba bf j fr at' i0 : Nat) (f : List UInt8) (hfl : f.length ≤ 100000000) (J J' : Nat → Option Addr → Nat → World → Prop) (Jx : World → Prop)
    (hJd : ∀ k a c W n, J k a c W → J k a c (W.drewN n)) (hJ : ∀ k a c W, J k a c W → W.cell? ⟨bf, 0, none⟩ = some (.slice a (f.length - 64 * k) c) ∧ W.frozen? ⟨bf, 0, none⟩ = false ∧ Rd W a (f.drop (64 * k)) ∧ f.length - 64 * k ≤ c ∧ c ≤ maxLen)
    (hY : ∀ k a c W, J k a c W → 64 * k < f.length → YieldAt Fence.wide 3 Try.prog l #[.int .i64 ((i0 : Int) + (k : Int)), .slice a (Nat.min (f.length - 64 * k) 64) c] W fun e W' =>
      (e = .returned (.bool true) ∧ J' k a c W') ∨ (e = .returned (.bool false) ∧ Jx W'))
    (hN : ∀ k a c W, J' k a c W → W.cell? ⟨bf, 0, none⟩ = some (.slice a (f.length - 64 * k) c) ∧ W.frozen? ⟨bf, 0, none⟩ = false ∧ Rd W a (f.drop (64 * k)) ∧
      ∀ a2 c2, Rd W a2 (f.drop (64 * (k + 1))) → (∃ m, a2 = a ∨ a2 = Option.map (fun x => x.add m) a) → f.length - 64 * (k + 1) ≤ c2 → c2 ≤ maxLen → J (k + 1) a2 c2 (W.setCell ⟨bf, 0, none⟩ (.slice a2 (f.length - 64 * (k + 1)) c2)))
    (W : World) (a : Option Addr) (c : Nat) (h0 : J 0 a c W) (hbj : W.cell? ⟨bj, 0, none⟩ = some (.pointer (some ⟨j, 0, none⟩))) (hba : W.cell? ⟨ba, 0, none⟩ = some (.int .i64 (at' : Int))) (hfr : W.cell? ⟨j, 1, none⟩ = some (.int .i64 (fr : Int)))
    (hi0 : i0 = fr + at' / 64) (hb : fr ≤ 65536 ∧ at' ≤ 4194304) :
    CallsIn Fence.wide 4 Try.prog 101 #[.func (.yield l) #[] #[], .pointer (some ⟨bj, 0, none⟩), .pointer (some ⟨ba, 0, none⟩), .pointer (some ⟨bf, 0, none⟩)] W fun e W' =>
      (∃ v, e = .returned v) ∧ ((∃ k a c, f.length ≤ 64 * k ∧ J k a c W') ∨ Jx W') := by
  have HJ := hid hJ
  have HY := hid hY
  have HN := hid hN
  have H0 := hid h0
  clear hJ hY hN h0
  have HI0 := hid hi0
  have hi1 : i0 ≤ 1000000 := by omega
  clear hi0
  refine callsIn_of_wp Try.func101 rfl trivial (wpIn_wide.2 ?_) rfl
  simp only [Try.ntmps101, List.size_toArray, List.length_cons, List.length_nil, Nat.reduceAdd, Nat.reduceSub, Array.replicate_succ, Array.replicate_zero, List.push_toArray, List.append_toArray, List.nil_append, List.cons_append]
  go_wp2
  go_quiet (fail)
  go_wp2
  go_loopw [5] (fun i wr => ∃ (k : Nat) (a : Option Addr) (c : Nat), k ≤ f.length ∧ i = .int .i64 ((i0 : Int) + (k : Int)) ∧ Hid (J k a c wr)) (fun i _ => i0 + f.length + 1 - (intOf i).toNat)
  case atStart => exact ⟨0, a, c, by omega, by rw [HI0.out]; simp, hJd _ _ _ _ _ H0.out⟩
  case round =>
    obtain ⟨k, a1, c1, hk, rfl, hj⟩ := hrel
    obtain ⟨hcell, hfz, hrd, hcap, hcm⟩ := HJ.out k a1 c1 wr hj.out
    by_cases hlt : 64 * k < f.length
    · have hpos : (0 : Int) < ((f.length - 64 * k : Nat) : Int) := by omega
      have HYK := hid (HY.out k a1 c1 wr hj.out hlt)
      have HD := hid (show f.length - 64 * (k + 1) = f.length - 64 * k - Nat.min (f.length - 64 * k) 64 by
        rcases Nat.le_total (f.length - 64 * k) 64 with h | h
        · rw [show Nat.min (f.length - 64 * k) 64 = f.length - 64 * k from Nat.min_eq_left h]; omega
        · rw [show Nat.min (f.length - 64 * k) 64 = 64 from Nat.min_eq_right h]; omega)
      have hm : imin ((f.length - 64 * k : Nat) : Int) 64 = ((Nat.min (f.length - 64 * k) 64 : Nat) : Int) := by
        unfold imin
        have : Nat.min (f.length - 64 * k) 64 = min (f.length - 64 * k) 64 := rfl
        omega
      have hm1 : Nat.min (f.length - 64 * k) 64 ≤ f.length - 64 * k := Nat.min_le_left _ _
      have HM64 := hid (show Nat.min (f.length - 64 * k) 64 ≤ 64 from Nat.min_le_right _ _)
      generalize Nat.min (f.length - 64 * k) 64 = m at *
      generalize hL : f.length - 64 * k = L at *
      have hmc : (m : Int) ≤ (c1 : Int) := by omega
      have hmL : (m : Int) ≤ (L : Int) := by omega
      have HDR := hid (drop_at f k m hL hm1 HM64.out HD.out)
      clear hm1
      go_upto_region 4 with (fail)
      refine (wpIn_wide (n := 4)).1 ?_
      obtain ⟨fn, tmps, assign, body, hy, hR⟩ := HYK.out
      gi_wp2
      refine hR.mono ?_
      rintro e W' (⟨rfl, hj'⟩ | ⟨rfl, hjx⟩)
      · obtain ⟨hc2, hz2, hr2, hn2⟩ := HN.out k a1 c1 W' hj'
        have HN2 := hid hn2
        have HR2 := hid hr2
        rw [hL] at hc2
        have hL2 : L ≤ c1 := hcap
        have HL := hid hL
        clear hn2 hr2 hcell hfz hrd hy hR hj' hL
        gi_wp2
        go_wp2
        refine ⟨⟨k + 1, (if c1 = m then a1 else Option.map (fun x => x.add m) a1), c1 - m, by omega, ?_, ?_⟩, ?_⟩
        · congr 1
        · show J _ _ _ _
          have h := HN2.out (if c1 = m then a1 else Option.map (fun x => x.add m) a1) (c1 - m) ?_ ⟨m, by by_cases hcm : c1 = m <;> simp [hcm]⟩ (by rw [HD.out]; omega) (by omega)
          · rw [HD.out] at h; exact h
          · have hl : (f.drop (64 * k)).length = L := by rw [List.length_drop, HL.out]
            rw [HDR.out]
            exact rd_if HR2.out (by rw [hl]; omega) (by rw [List.length_drop]; omega) (by rw [hl]; omega)
        · simp [intOf]; omega
      · have HX := hid hjx
        clear hcell hfz hrd hy hR hjx
        gi_wp2
        go_wp2
        refine bodyPost_ret (results_none (by kernel_rfl) _ _ _) rfl ?_
        exact ⟨⟨_, rfl⟩, .inr HX.out⟩
    · have hz0 : f.length - 64 * k = 0 := by omega
      rw [hz0] at hcell
      have hge : f.length ≤ 64 * k := by omega
      have HG := hid hge
      clear hz0 hge hlt hrd hcap hcm
      go_wp2
      go_end0
      exact ⟨⟨_, rfl⟩, .inl ⟨k, a1, c1, HG.out, hj.out⟩⟩
end Go.Proofs.Ytdhhpnfdnoaihaa

/- The contract of crc.Join. -/
import Derived.Test.YtdhhpnfdnoaihaaC6
namespace Go.Proofs.Ytdhhpnfdnoaihaa
open Go.RowKit

theorem step_zero (x : BitVec 32) (w : World) : Calls Try.prog 21 #[.int .u32 (x.toNat : Int), .int .u8 0] w fun e w' => e = .returned (U32 (PCrc.s8 x)) ∧ w = w' := by
  have h := step_any x 0 w
  have e : PCrc.step x (0 : UInt8).toBitVec = PCrc.s8 x := by
    unfold PCrc.step
    rw [show (0 : UInt8).toBitVec.setWidth 32 = 0#32 from rfl, BitVec.xor_zero]
  rw [e] at h; exact h

theorem shl1 (k : Nat) : (2 : Int) ^ k % 4294967296 = ((1#32 <<< k).toNat : Int) := by
  rw [BitVec.toNat_shiftLeft, Nat.shiftLeft_eq]
  simp
/-- the first k columns of a step with the byte 0 -/
def j1Rel (w wr : World) (k : Nat) : Prop := Mod None w wr ∧ ∃ cs, Blk wr w.heap.size 97 cs ∧ Cols PCrc.s8 k cs
theorem j1_cells {w wr : World} {k : Nat} (h : j1Rel w wr k) (hk : k < 32) :
    (∃ x, wr.cell? ⟨w.heap.size, k, none⟩ = some x) ∧ wr.frozen? ⟨w.heap.size, k, none⟩ = false := by
  obtain ⟨_, cs, hb, h1, _⟩ := h
  exact ⟨⟨_, hb.cellAt k (by omega)⟩, hb.free k⟩
theorem j1_step {w wr : World} {k : Nat} (h : j1Rel w wr k) (hk : k < 32) :
    j1Rel w (wr.setCell ⟨w.heap.size, k, none⟩ (.int .u32 ((PCrc.s8 (1#32 <<< k)).toNat : Int))) (k + 1) := by
  obtain ⟨hmod, cs, hb, hc⟩ := h
  exact ⟨hmod.set (.inr (Nat.le_refl _)) _, _, hb.set k _, hc.set hk⟩
def j2Rel (w wr : World) (a : BitVec 32) (n m : Nat) (x : BitVec 32) : Prop := Mod None w wr ∧ ∃ p r, p * m + r = n ∧ x = PCrc.pow r a ∧ Mat wr w.heap.size (PCrc.pow p)

theorem j2_end {w wr : World} {a : BitVec 32} {n : Nat} {x : BitVec 32} (h : j2Rel w wr a n 0 x) : x = PCrc.pow n a ∧ Mod None w wr := by
  obtain ⟨hmod, p, r, e, hx, _⟩ := h
  obtain rfl : r = n := by omega
  exact ⟨hx, hmod⟩
theorem mat_double {w : World} {b p : Nat} (h : Mat w b (fun x => PCrc.pow p (PCrc.pow p x))) : Mat w b (PCrc.pow (p + p)) := by
  have e : PCrc.pow (p + p) = fun x => PCrc.pow p (PCrc.pow p x) := by funext x; rw [PCrc.pow_add]
  rw [e]; exact h
theorem j2_even {w wr w2 : World} {a : BitVec 32} {n m p r : Nat} {x : BitVec 32} (hmod : Mod None w wr) (hx : x = PCrc.pow r a) (e : p * m + r = n) (h2 : m % 2 = 0)
    (hm2 : Mat w2 w.heap.size (fun x => PCrc.pow p (PCrc.pow p x))) (hmod2 : Mod (· = w.heap.size) wr w2) : j2Rel w w2 a n (m / 2) x := by
  refine ⟨hmod.then hmod2 (fun i hi e => by omega), p + p, r, ?_, hx, mat_double hm2⟩
  obtain ⟨q, rfl⟩ : ∃ q, m = 2 * q := ⟨m / 2, by omega⟩
  rw [show 2 * q / 2 = q by omega, ← e, Nat.add_mul, ← Nat.mul_assoc, Nat.mul_comm p 2, Nat.mul_assoc, Nat.two_mul (p * q)]
theorem j2_odd {w wr w2 : World} {a : BitVec 32} {n m p r : Nat} {x : BitVec 32} (hmod : Mod None w wr) (hx : x = PCrc.pow r a) (e : p * m + r = n) (h2 : m % 2 = 1)
    (hm2 : Mat w2 w.heap.size (fun x => PCrc.pow p (PCrc.pow p x))) (hmod2 : Mod (· = w.heap.size) wr w2) : j2Rel w w2 a n (m / 2) (PCrc.pow p x) := by
  refine ⟨hmod.then hmod2 (fun i hi e => by omega), p + p, r + p, ?_, ?_, mat_double hm2⟩
  · obtain ⟨q, rfl⟩ : ∃ q, m = 2 * q + 1 := ⟨m / 2, by omega⟩
    rw [show (2 * q + 1) / 2 = q by omega, ← e, Nat.add_mul, Nat.mul_add, ← Nat.mul_assoc, Nat.mul_comm p 2, Nat.mul_assoc, Nat.two_mul (p * q)]
    omega
  · rw [hx, PCrc.pow_add]
theorem and1_i64 (m : Nat) (h : m < 2 ^ 62) : bits .and .i64 (m : Int) 1 = ((m % 2 : Nat) : Int) := by
  have e1 : (BitVec.ofInt 64 (m : Int)).toNat = m := by
    rw [BitVec.ofInt_natCast, BitVec.toNat_ofNat]; exact Nat.mod_eq_of_lt (by omega)
  have e2 : (BitVec.ofInt 64 (1 : Int)).toNat = 1 := rfl
  show IntKind.i64.wrap ((BitVec.ofInt 64 (m : Int) &&& BitVec.ofInt 64 (1 : Int)).toNat : Int) = _
  rw [BitVec.toNat_and, e1, e2, Nat.and_one_is_mod]
  simp only [IntKind.wrap, IntKind.bits, IntKind.signed]
  simp
  omega

set_option maxHeartbeats 800000 in
theorem join_any (a b : BitVec 32) (n : Nat) (hn : n ≤ 1048576) (w : World) :
    Calls Try.prog 25 #[U32 a, U32 b, .int .i64 (n : Int)] w fun e w' => e = .returned (U32 (PCrc.pow n a ^^^ b)) ∧ Mod None w w' := by
  unfold U32
  go_enter Try.func25, Try.ntmps25
  go_wp2
  generalize hw1 : w.alloc _ = w1
  have h0 : j1Rel w w1 0 := by
    subst hw1
    exact ⟨(Mod.refl _ _).alloc _, _, Blk.new _ _ _, rfl, by intro v hv; simp at hv; subst hv; rfl, fun i hi => by omega⟩
  clear hw1
  go_loopw [9] (fun i wr => ∃ k : Nat, k ≤ 32 ∧ i = .int .i64 k ∧ j1Rel w wr k) (fun i _ => 32 - (intOf i).toNat)
  case atStart => exact ⟨0, by omega, rfl, h0⟩
  case round =>
    obtain ⟨k, hk, rfl, hr⟩ := hrel
    clear h0
    by_cases hlt2 : k < 32
    · obtain ⟨⟨ox, hox⟩, hof⟩ := j1_cells hr hlt2
      have HS := hid (j1_step hr hlt2)
      clear hr
      go_wp2_with (go_at_call 21; rw [shl1 k]; refine (step_zero _ _).mono ?_; rintro e w' ⟨rfl, rfl⟩)
      go_roundw
      case rel => exact ⟨k + 1, by omega, by go_num, HS.out⟩
      case measure => simp [intOf]; omega
    · obtain ⟨hmod, cs, hb, hc⟩ := hr
      have hr2 : j2Rel w wr a n n a := ⟨hmod, 1, 0, by omega, rfl, cs, hb, hc.1, hc.2.1, fun i hi => hc.2.2 i (by omega)⟩
      have HR := hid hr2
      clear hmod hb hc hr2
      have hmin : min (max (n : Int) 0) 1048576 = (n : Int) := by omega
      go_wp2
      obtain ⟨wo, hwo⟩ : ∃ wo : World, wo = wr := ⟨_, rfl⟩
      subst hwo
      go_loopw [0, 2] (fun x m wr => ∃ (m' : Nat) (x' : BitVec 32), m' ≤ n ∧ m = .int .i64 m' ∧ x = .int .u32 (x'.toNat : Int) ∧ Hid (j2Rel w wr a n m' x')) (fun _ m _ => (intOf m).toNat)
      case atStart => exact ⟨n, a, by omega, rfl, rfl, HR⟩
      case round =>
        obtain ⟨m, x, hm, rfl, rfl, hr⟩ := hrel
        clear HR hmin
        by_cases h0 : m = 0
        · subst h0
          have HE := hid (j2_end hr.out)
          clear hr
          go_wp2
          go_ret
          exact ⟨ret_int (by rw [xor32, HE.out.1]), HE.out.2⟩
        · have hpos : 0 < m := by omega
          clear h0
          obtain ⟨hmod, p, r, e, hx, hmat⟩ := hr.out
          have HM := hid hmat.cells
          have HMA := hid hmat
          have HMD := hid hmod
          have HX := hid hx
          have HEq := hid e
          clear hr hmod hmat hx e
          rcases Nat.mod_two_eq_zero_or_one m with h2 | h2
          · have hbit : bits .and .i64 (m : Int) 1 = 0 := by rw [and1_i64 m (by omega), h2]; rfl
            have H2 := hid h2
            clear h2
            go_wp2_with (go_at_call 64; refine (square_any _ (PCrc.pow p) (PCrc.lin_pow p) _ HMA.out).mono ?_; rintro e w' ⟨rfl, hm2, hmod2⟩; have HM2 := hid hm2; have HMD2 := hid hmod2; clear hm2 hmod2)
            go_roundw
            case rel => exact ⟨m / 2, x, by omega, by go_num, rfl, j2_even HMD.out HX.out HEq.out H2.out HM2.out HMD2.out⟩
            case measure => simp [intOf]; omega
          · have hbit : bits .and .i64 (m : Int) 1 = 1 := by rw [and1_i64 m (by omega), h2]; rfl
            have H2 := hid h2
            clear h2
            go_wp2_with (first
              | (go_at_call 63; refine (times_any _ (PCrc.pow p) (PCrc.lin_pow p) x _ HM.out).mono ?_; rintro e w' ⟨rfl, rfl⟩)
              | (go_at_call 64; refine (square_any _ (PCrc.pow p) (PCrc.lin_pow p) _ HMA.out).mono ?_; rintro e w' ⟨rfl, hm2, hmod2⟩; have HM2 := hid hm2; have HMD2 := hid hmod2; clear hm2 hmod2))
            go_roundw
            case rel => exact ⟨m / 2, PCrc.pow p x, by omega, by go_num, rfl, j2_odd HMD.out HX.out HEq.out H2.out HM2.out HMD2.out⟩
            case measure => simp [intOf]; omega
end Go.Proofs.Ytdhhpnfdnoaihaa

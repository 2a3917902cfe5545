/- Slices that are read; contracts of the sums. -/
import Derived.Test.YtdhhpnfdnoaihaaC2
namespace Go.Proofs.Ytdhhpnfdnoaihaa
open Go.RowKit

@[go_sem] def U32 (c : BitVec 32) : Value := .int .u32 (c.toNat : Int)
/-- a sum goes on by bytes -/
def crun (c : BitVec 32) (l : List UInt8) : BitVec 32 := PCrc.run c (l.map UInt8.toBitVec)
def csum (l : List UInt8) : BitVec 32 := PCrc.sum (l.map UInt8.toBitVec)
theorem crun_nil (c : BitVec 32) : crun c [] = c := rfl
theorem crun_snoc (c : BitVec 32) (l : List UInt8) (b : UInt8) : crun c (l ++ [b]) = PCrc.step (crun c l) b.toBitVec := by
  simp [crun, PCrc.run]
theorem crun_append (c : BitVec 32) (l m : List UInt8) : crun c (l ++ m) = crun (crun c l) m := by
  simp [crun, PCrc.run_append]
theorem take_snoc' (l : List UInt8) (k : Nat) (h : k < l.length) : l.take (k + 1) = l.take k ++ [l[k]] := by
  rw [List.take_succ_eq_append_getElem h]
theorem crun_take (c : BitVec 32) (l : List UInt8) (k : Nat) (h : k < l.length) : crun c (l.take (k + 1)) = PCrc.step (crun c (l.take k)) l[k].toBitVec := by
  rw [take_snoc' l k h, crun_snoc]
theorem not32 (a : BitVec 32) : bits .xor .u32 (a.toNat : Int) 4294967295 = ((~~~ a).toNat : Int) := by
  have := xor32 a (BitVec.allOnes 32)
  rw [BitVec.xor_allOnes] at this; exact this
theorem not32' (a : BitVec 32) : bits .xor .u32 4294967295 (a.toNat : Int) = ((~~~ a).toNat : Int) := by
  have := xor32 (BitVec.allOnes 32) a
  rw [BitVec.allOnes_xor] at this; exact this

set_option maxHeartbeats 400000 in
theorem refsum_any (a : Option Addr) (cap : Nat) (l : List UInt8) (w : World) (h : Rd w a l) (hl : l.length ≤ 140737488351232) :
    Calls Try.prog 23 #[.slice a l.length cap] w fun e w' => e = .returned (U32 (csum l)) ∧ w = w' := by
  rcases h with h | ⟨b, o, rfl, hc⟩
  · obtain rfl : l = [] := by simpa using h
    go_enter Try.func23, Try.ntmps23
    go_wp2
    refine wp_loop_rounds 1 ?_
    rw [rounds_succ]
    go_wp2
    go_ret
    exact ⟨ret_int rfl, rfl⟩
  · have HC := hid (@Rd.at w b o l hc)
    clear hc
    have h0 : (4294967295 : Int) = ((crun (~~~ 0#32) (l.take 0)).toNat : Int) := rfl
    go_enter Try.func23, Try.ntmps23
    go_wp2
    go_loop [3, 4] (fun x i => ∃ k : Nat, k ≤ l.length ∧ i = .int .i64 k ∧ x = U32 (crun (~~~ 0#32) (l.take k))) (fun _ i => l.length - (intOf i).toNat)
    case atStart => exact ⟨0, by omega, rfl, by rfl⟩
    case round =>
      obtain ⟨k, hk, rfl, rfl⟩ := hrel
      clear h0
      by_cases hlt : k < l.length
      · have hck := HC.out k hlt
        generalize hb : l[k] = bk at hck
        have HB := hid hb
        clear hb
        generalize hx : crun (~~~ 0#32) (l.take k) = x
        have HX := hid hx
        clear hx
        unfold U32
        go_wp2_with (go_at_call 22; refine (refstep_any x bk _).mono ?_; rintro e w' ⟨rfl, rfl⟩)
        go_round
        case rel => exact ⟨k + 1, by omega, by go_num, by rw [crun_take _ _ _ hlt, HX.out, HB.out]⟩
        case measure => simp [intOf]; omega
      · obtain rfl : k = l.length := by omega
        generalize hx : crun (~~~ 0#32) (l.take l.length) = x
        have HX := hid hx
        clear hx
        unfold U32
        go_wp2
        go_ret
        exact ⟨ret_int (by rw [not32, ← HX.out, List.take_length]; rfl), rfl⟩
end Go.Proofs.Ytdhhpnfdnoaihaa

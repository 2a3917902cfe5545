/- The contract of crc.Sum. -/
import Derived.Test.YtdhhpnfdnoaihaaC3
namespace Go.Proofs.Ytdhhpnfdnoaihaa
open Go.RowKit

/-- one of the slices of a slice of byte slices -/
def Part (w : World) (v : Value) (l : List UInt8) : Prop := ∃ a c, v = .slice a l.length c ∧ Rd w a l ∧ l.length ≤ 140737488351232
def RdSS (w : World) (a : Option Addr) (ls : List (List UInt8)) : Prop :=
  ls = [] ∨ ∃ b o, a = some ⟨b, o, none⟩ ∧ ∀ i, (h : i < ls.length) → ∃ v, w.cell? ⟨b, o + i, none⟩ = some v ∧ Part w v ls[i]

theorem flatten_take (ls : List (List UInt8)) (k : Nat) (h : k < ls.length) : (ls.take (k + 1)).flatten = (ls.take k).flatten ++ ls[k] := by
  rw [List.take_succ_eq_append_getElem h, List.flatten_append]; simp
theorem max32 : IntKind.u32.max = 4294967295 := by decide

set_option maxHeartbeats 400000 in
theorem sum_any (a : Option Addr) (cap : Nat) (ls : List (List UInt8)) (w : World) (h : RdSS w a ls) (hl : ls.length ≤ 140737488351232) :
    Calls Try.prog 24 #[.slice a ls.length cap] w fun e w' => e = .returned (U32 (csum ls.flatten)) ∧ w = w' := by
  rcases h with rfl | ⟨b, o, rfl, hc⟩
  · go_enter Try.func24, Try.ntmps24
    go_wp2
    refine wp_loop_rounds 1 ?_
    rw [rounds_succ]
    go_wp2
    go_ret
    exact ⟨ret_int rfl, rfl⟩
  · have HC := hid hc
    clear hc
    have h0 : (4294967295 : Int) = ((crun (~~~ 0#32) (ls.take 0).flatten).toNat : Int) := rfl
    go_enter Try.func24, Try.ntmps24
    go_wp2
    go_loop [3, 10] (fun x i => ∃ k : Nat, k ≤ ls.length ∧ i = .int .i64 k ∧ x = U32 (crun (~~~ 0#32) (ls.take k).flatten)) (fun _ i => ls.length - (intOf i).toNat)
    case atStart => exact ⟨0, by omega, rfl, by rfl⟩
    case round =>
      obtain ⟨k, hk, rfl, rfl⟩ := hrel
      clear h0
      by_cases hlt : k < ls.length
      · obtain ⟨v, hv, pa, pc, rfl, hrd, hpl⟩ := HC.out k hlt
        have HF := hid (flatten_take ls k hlt)
        generalize hp : ls[k] = p at hv hrd hpl HF
        clear hp
        generalize hx : crun (~~~ 0#32) (ls.take k).flatten = x
        have HX := hid hx
        clear hx
        rcases hrd with h | ⟨pb, po, rfl, hcp⟩
        · obtain rfl : p = [] := by simpa using h
          unfold U32
          simp only [List.length_nil] at hv
          go_wp2
          refine wp_loop_rounds 1 ?_
          rw [rounds_succ]
          go_wp2
          go_round
          case rel => exact ⟨k + 1, by omega, by go_num, by rw [HF.out, List.append_nil, HX.out]⟩
          case measure => simp [intOf]; omega
        · have HCP := hid (@Rd.at w pb po p hcp)
          clear hcp
          unfold U32
          go_wp2
          go_loop [3, 16] (fun y i => ∃ j : Nat, j ≤ p.length ∧ i = .int .i64 j ∧ y = U32 (crun x (p.take j))) (fun _ i => p.length - (intOf i).toNat)
          case atStart => exact ⟨0, by omega, rfl, by rfl⟩
          case round =>
            obtain ⟨j, hj, rfl, rfl⟩ := hrel
            by_cases hlj : j < p.length
            · have hcj := HCP.out j hlj
              generalize hb : p[j] = bj at hcj
              have HB := hid hb
              clear hb
              generalize hy : crun x (p.take j) = y
              have HY := hid hy
              clear hy
              unfold U32
              go_wp2_with (go_at_call 21; refine (step_any y bj _).mono ?_; rintro e w' ⟨rfl, rfl⟩)
              go_round
              case rel => exact ⟨j + 1, by omega, by go_num, by rw [crun_take _ _ _ hlj, HY.out, HB.out]⟩
              case measure => simp [intOf]; omega
            · obtain rfl : j = p.length := by omega
              generalize hy : crun x (p.take p.length) = y
              have HY := hid hy
              clear hy
              unfold U32
              go_wp2
              go_round
              case rel => exact ⟨k + 1, by omega, by go_num, by rw [HF.out, crun_append, HX.out, ← HY.out, List.take_length]⟩
              case measure => simp [intOf]; omega
      · obtain rfl : k = ls.length := by omega
        generalize hx : crun (~~~ 0#32) (ls.take ls.length).flatten = x
        have HX := hid hx
        clear hx
        unfold U32
        go_wp2
        go_ret
        exact ⟨ret_int (by rw [max32, not32', ← HX.out, List.take_length]; rfl), rfl⟩
end Go.Proofs.Ytdhhpnfdnoaihaa

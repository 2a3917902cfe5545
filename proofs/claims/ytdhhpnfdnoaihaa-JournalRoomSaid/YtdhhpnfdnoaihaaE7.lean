/- Does a disk tell what the document's does? -/
import Derived.BigQuiet
import Derived.Deep.QuietTactic
import Derived.Test.YtdhhpnfdnoaihaaE6
namespace Go.Proofs.Ytdhhpnfdnoaihaa
open Go.RowKit

theorem wrap_in (n : Int) (h : -9223372036854775808 ≤ n ∧ n ≤ 9223372036854775807) : IntKind.i64.wrap n = n := by
  simp [IntKind.wrap, IntKind.bits, IntKind.signed]; omega
theorem mod_drewN (w : World) (n : Nat) : Mod None w (w.drewN n) := ⟨rfl, rfl, rfl, Nat.le_refl _, fun _ _ _ => rfl⟩
theorem flip_call {k : FuncId} {args : Array Value} {w : World} {v : Value} (h : Calls Try.prog k args w fun e w' => e = .returned v ∧ w = w') : Calls Try.prog k args w fun e w' => e = .returned v ∧ w' = w :=
  h.mono fun _ _ ⟨a, b⟩ => ⟨a, b.symm⟩
set_option maxRecDepth 100000 in
set_option maxHeartbeats 1600000 in
theorem same_any (w : World) (S T : Nat → Prop) (p q N : Nat) (st : DSt) (h : IsDisk w S p st) (hr : IsRef w T q N st) :
    Calls Try.prog 43 #[.pointer (some ⟨p, 0, none⟩), .pointer (some ⟨q, 0, none⟩), .int .i64 5] w fun e w' => e = .returned (.bool true) ∧ Mod None w w' := by
  have HD := hid h
  have HR := hid hr
  obtain ⟨b, n, f, qs, bv, hr, hn⟩ := hr
  obtain ⟨h0, _, h2, _, h4⟩ := hr.cells
  have hok := hr.ok.most
  obtain ⟨ba, bc, rfl, hbc, hbm⟩ := hr.shape
  have C1 := hid (fun m => flip_call (down_any (w.drewN m) S p st (h.keep (mod_drewN w m) (fun _ _ h => h))))
  have C2 := hid (fun m => flip_call (size_any (w.drewN m) S p st (h.keep (mod_drewN w m) (fun _ _ h => h))))
  have C3 := hid (fun m => flip_call (waits_any (w.drewN m) S p st (h.keep (mod_drewN w m) (fun _ _ h => h))))
  have HC := hid (fun w' (hm : Mod None w w') => (hr.keep hm (fun _ _ h => h) (S' := fun k => T k) (fun _ h => h) (fun k hk => Nat.lt_of_lt_of_le (hr.lt k hk) hm.size)).cells.1)
  clear h hr hn hbc hbm
  generalize hl : st.last.length = ln at *
  generalize hw : st.waits.length = wn at *
  generalize hdn : st.down = bd at *
  cases bd
  all_goals
    go_enter Try.func43, Try.ntmps43
    go_wp2_with fail
    go_quiet (first | (go_at_call 31; exact Calls.quiet_of_same (C1.out _)) | (go_at_call 73; exact Calls.quiet_of_same (C2.out _)) | (go_at_call 36; exact Calls.quiet_of_same (C3.out _)))
    go_wp2_with fail
    go_loopw [7] (fun i wr => ∃ z : Int, (-1 ≤ z ∧ z ≤ 6) ∧ i = .int .i64 z ∧ Hid (Mod None w wr)) (fun i _ => (7 - intOf i).toNat)
    case atStart => exact ⟨-1, by omega, rfl, mod_drewN w _⟩
    case round =>
      obtain ⟨z, hz, rfl, hm⟩ := hrel
      have hcell := HC.out wr hm.out
      by_cases h1 : z ≤ (ln : Int)
      · by_cases h2 : z ≤ 5
        · have HRD := hid (read_any wr S p st (HD.out.keep hm.out (fun _ _ h => h)) z)
          have HRR := hid (fun w' (hm' : Mod None w w') => rread_any w' T q N st (HR.out.keep hm' (fun _ _ h => h)) z)
          obtain ⟨l, e, hre⟩ : ∃ l e, st.read z = (l, e) := ⟨_, _, rfl⟩
          rw [hre] at HRD HRR
          have hz1 : IntKind.i64.wrap (z + 1) = z + 1 := wrap_in (z + 1) (by omega)
          clear hre
          go_wp2_with fail
          refine HRD.out.mono ?_
          rintro e2 w2 ⟨a1, rfl, ht, hm2⟩
          have HT1 := hid ht.rd
          have HM2 := hid (hm.out.trans hm2)
          clear ht hm2 HRD
          go_wp2_with fail
          refine (HRR.out w2 HM2.out).mono ?_
          rintro e3 w3 ⟨a2, rfl, ht2, hm3⟩
          have hs1 := str_rd (hm3.rd HT1.out (fun _ _ h => h)) l.length l.length rfl
          have hs2 := str_rd ht2 l.length l.length rfl
          have HM3 := hid (HM2.out.trans hm3)
          clear ht2 hm3 HRR HT1 hcell
          unfold Str at hs1 hs2
          go_wp2_with fail
          go_roundw
          case rel => exact ⟨z + 1, by omega, by go_num, HM3.out⟩
          case measure => simp [intOf]; omega
        · go_wp2_with fail
          go_ret
          exact ⟨rfl, hm.out⟩
      · go_wp2_with fail
        go_ret
        exact ⟨rfl, hm.out⟩
end Go.Proofs.Ytdhhpnfdnoaihaa

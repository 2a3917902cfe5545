/- The walk of JournalRoom. -/
import Derived.Test.YtdhhpnfdnoaihaaP2
import Derived.Test.YtdhhpnfdnoaihaaV3
namespace Go.Proofs.Ytdhhpnfdnoaihaa
open Go.RowKit

def roomRel (w wr : World) (p j n m : Nat) : Prop :=
  ∃ S st en ct, Live w wr S p st ∧ Calm st ∧ st.last.length = 20 ∧ st.waits = [] ∧ IsJ wr j p 0 n (en : Nat) (ct : Nat) ∧ ¬ S j ∧ w.heap.size ≤ j ∧ en + m = 64 * n ∧ ct * 16 ≤ en
set_option maxRecDepth 100000 in
set_option maxHeartbeats 1600000 in
theorem JournalRoom_walk (w : World) (a0 : Int) (w0 : (Lit.int .u8 a0).wf = true) (v1 : Value) (l1 : List Int) (w1 : VInts w v1 l1) :
    Calls Try.prog 14 #[.int .u8 a0, v1] w fun e w' => e = .returned (.bool true) ∧ Below w.heap.size w w' := by
  obtain ⟨a, cap, rfl, hll, hseen⟩ := w1
  have HS := hid (fun w' hm k hk => VInts.at hseen (w' := w') hm (k := k) hk)
  have ha : 0 ≤ a0 ∧ a0 ≤ 255 := by simpa [Lit.wf, IntKind.min, IntKind.max, IntKind.signed, IntKind.bits] using w0
  obtain ⟨n, hn, hn20⟩ : ∃ n : Nat, a0 % 20 = (n : Int) ∧ n < 20 := ⟨(a0 % 20).toNat, by omega, by omega⟩
  have HN := hid hn
  have HN20 := hid hn20
  have hq : 0 ≤ a0 ∧ a0 ≤ 255 := ha
  clear hseen w0 ha hn hn20
  go_enter Try.func14, Try.ntmps14
  go_wp2_with fail
  refine (live_new w w (Mod.refl _ _) 20 20 (by omega)).mono ?_
  rintro e w2 ⟨p, S, rfl, hl, _, _⟩
  have HL := hid hl
  clear hl
  go_wp2_with fail
  rw [HN.out]
  refine (open0_any w w2 S p (DSt.new 20) HL.out n (by simp [DSt.new]; have := HN20.out; omega) rfl).mono ?_
  rintro e w3 ⟨j, rfl, hj, hjn, hm, hl⟩
  have HR3 : Hid (roomRel w w3 p j n (64 * n)) := hid ⟨S, DSt.new 20, 0, 0, hl, ⟨rfl, by decide⟩, by simp [DSt.new], rfl, hj, fun hs => by have := HL.out.lt j hs; omega, Nat.le_trans HL.out.2.1.size hjn, by omega, by omega⟩
  clear hj hjn hm hl HL
  go_wp2_with fail
  refine (awake5_any w3).mono ?_
  rintro e w4 ⟨rfl, hm⟩
  have HR4 : Hid (roomRel w w4 p j n (64 * n)) := by
    obtain ⟨S, st, en, ct, h1, h2, h3, h4, h5, h6⟩ := HR3.out
    exact ⟨S, st, en, ct, h1.step hm, h2, h3, h4, hm.blk h5 (fun h => h), h6⟩
  clear hm HR3
  have hn20' := HN20.out
  go_wp2_with fail
  clear hq
  go_loopw [10, 11] (fun lf i wr => ∃ k m : Nat, k ≤ l1.length ∧ i = .int .i64 k ∧ lf = .int .i64 m ∧ Hid (roomRel w wr p j n m)) (fun _ i _ => l1.length - (intOf i).toNat)
  case atStart => exact ⟨0, 64 * n, by omega, rfl, by simp, HR4.out⟩
  case round =>
    obtain ⟨k, m, hk, rfl, rfl, hr⟩ := hrel
    obtain ⟨S1, st, en, ct, hl, hc, hlen, hw0, hj, hjS, hj0, hem, hce⟩ := hr.out
    have HL := hid hl
    have HC := hid (And.intro hc (And.intro hlen hw0))
    have HJ := hid hj
    have HJS := hid (And.intro hjS hj0)
    have HEM := hid (And.intro hem hce)
    have hm1280 : m ≤ 1280 := by omega
    clear hl hc hlen hw0 hj hjS hj0 hem hce HR4
    by_cases hlt : k < l1.length
    · have hlt' : (k : Int) < (l1.length : Int) := by omega
      obtain ⟨b, o, rfl, hcell, hx⟩ := HS.out wr HL.out.2.1 k hlt
      generalize l1[k] = x at *
      by_cases hneg : x < 0
      · clear hx
        go_wp2_with fail
        go_roundw
        case rel => exact ⟨k + 1, m, by omega, by go_num, rfl, hr.out⟩
        case measure => simp [intOf]; omega
      by_cases hbig : 2000 < x
      · clear hx
        go_wp2_with fail
        go_roundw
        case rel => exact ⟨k + 1, m, by omega, by go_num, rfl, hr.out⟩
        case measure => simp [intOf]; omega
      obtain ⟨sz, rfl⟩ : ∃ sz : Nat, x = (sz : Int) := ⟨x.toNat, by omega⟩
      have hsz : sz ≤ 2000 := by omega
      obtain ⟨w7, hmk, hrd7, hm7⟩ := zeros_at wr sz (by omega)
      have HL7 := hid (HL.out.step hm7)
      have HJ7 := hid (show IsJ w7 j p 0 n (en : Nat) (ct : Nat) from hm7.blk HJ.out (fun h => h))
      have HR7 := hid hrd7
      clear hrd7 hm7 hx hr HL HJ
      by_cases hfit : sz + 16 ≤ m
      · have hfit' : (sz : Int) + 16 ≤ (m : Int) := by omega
        have hsp : en + (List.replicate sz (0 : UInt8)).length + 16 ≤ (n - 0) * 64 := by rw [List.length_replicate]; have := HEM.out; omega
        have hac := append_calm HC.out.1 0 n en (List.replicate sz 0) (by have := HC.out.2.1; omega) hsp
        have HAC := hid hac
        have hq2 : ((en + sz + 16 : Nat) : Int) = 64 * (n : Int) - ((m : Int) - (sz : Int) - 16) := by have := HEM.out; omega
        have HOK := hid (append_ok HL7.out (fr := 0) (to := n) (en := en) (ct := ct) HJ7.out HJS.out.1 HJS.out.2 (some ⟨wr.heap.size, 0, none⟩) sz sz (List.replicate sz 0) (by simp) HR7.out (by have := HC.out.2.1; omega) (by simp; omega) hsp (by have := HEM.out; omega) (by have := HEM.out; omega) HC.out.1.down (by rw [HC.out.2.2]; simp) (by rw [hac]))
        clear hsp hac
        go_wp2_with fail
        refine HOK.out.mono ?_
        rintro e w8 ⟨S8, rfl, hl8, hj8, _, hS8⟩
        rw [HAC.out] at hl8
        rw [List.length_replicate] at hj8
        have HL8 := hid hl8
        have HJ8 := hid hj8
        have HS8 := hid hS8
        clear hl8 hj8 hS8 HOK hmk
        go_wp2_with fail
        refine (end_any HJ8.out).mono ?_
        rintro e w9 ⟨rfl, rfl⟩
        have HM2 := hid (show (((m - (sz + 16) : Nat)) : Int) = (m : Int) - (sz : Int) - 16 by omega)
        have HQ2 := hid hq2
        go_wp2_with fail
        have HR9 : Hid (roomRel w w8 p j n (m - (sz + 16))) := hid ⟨S8, _, en + sz + 16, ct + 1, HL8.out, ⟨rfl, HC.out.1.armed⟩, by show (setAll _ _).length = 20; rw [setAll_length]; exact HC.out.2.1, rfl, HJ8.out, fun hs => HJS.out.1 (HS8.out j HJ7.out.lt hs), HJS.out.2, by have := HEM.out; omega, by have := HEM.out; omega⟩
        go_roundw
        case rel => exact ⟨k + 1, m - (sz + 16), by omega, by go_num, by rw [HM2.out], HR9.out⟩
        case measure => simp [intOf]; omega
      · have hfit' : ¬ (sz : Int) + 16 ≤ (m : Int) := by omega
        have HFU := hid (append_full w7 j p 0 n (en : Nat) (ct : Nat) HJ7.out (some ⟨wr.heap.size, 0, none⟩) sz sz (by omega) (by have := HEM.out; omega) (by omega) (by have := HEM.out; omega))
        have hq2 : (en : Int) = 64 * (n : Int) - (m : Int) := by have := HEM.out; omega
        have HQ2 := hid hq2
        clear hq2
        go_wp2_with fail
        refine HFU.out.mono ?_
        rintro e w8 ⟨rfl, hm8⟩
        have HL8 := hid (HL7.out.step hm8)
        have HJ8 := hid (show IsJ w8 j p 0 n (en : Nat) (ct : Nat) from hm8.blk HJ7.out (fun h => h))
        clear hm8 HFU hmk
        go_wp2_with fail
        have hwt := live_waits HL8.out
        rw [HC.out.2.2] at hwt
        refine hwt.mono ?_
        rintro e w9 ⟨rfl, rfl⟩
        clear hwt
        go_wp2_with fail
        refine (end_any HJ8.out).mono ?_
        rintro e w9 ⟨rfl, rfl⟩
        rw [HQ2.out]
        go_wp2_with fail
        have HR9 : Hid (roomRel w w8 p j n m) := hid ⟨S1, st, en, ct, HL8.out, HC.out.1, HC.out.2.1, HC.out.2.2, HJ8.out, HJS.out.1, HJS.out.2, HEM.out.1, HEM.out.2⟩
        go_roundw
        case rel => exact ⟨k + 1, m, by omega, by go_num, rfl, HR9.out⟩
        case measure => simp [intOf]; omega
    · obtain rfl : k = l1.length := by omega
      have hlt' : ¬ (l1.length : Int) < (l1.length : Int) := by omega
      obtain ⟨w7, hmk0, _, hm7⟩ := zeros_at wr 1048577 (by omega)
      have hmk : (Instr.makeSlice 27 (.int .i64 1048577) (.int .i64 1048577)).run Try.prog wr = .ok (.slice (some ⟨wr.heap.size, 0, none⟩) 1048577 1048577) w7 := hmk0
      have HL7 := hid (HL.out.step hm7)
      clear hm7 hmk0 hr HL HJ hlt
      go_wp2_with fail
      refine (append_long w7 j (some ⟨wr.heap.size, 0, none⟩) 1048577 1048577 (by omega)).mono ?_
      rintro e w8 ⟨rfl, hm8⟩
      have HL8 := hid (HL7.out.step hm8)
      clear hm8 hmk HL7
      go_wp2_with fail
      go_ret
      exact ⟨rfl, HL8.out.2.1.below _ (Nat.le_refl _) (fun _ h => h.elim)⟩
end Go.Proofs.Ytdhhpnfdnoaihaa

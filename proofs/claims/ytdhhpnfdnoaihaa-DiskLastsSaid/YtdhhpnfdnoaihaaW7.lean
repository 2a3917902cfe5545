/- The walk of DiskLasts. -/
import Derived.Test.YtdhhpnfdnoaihaaV2
import Derived.Test.YtdhhpnfdnoaihaaD10
import Derived.Test.YtdhhpnfdnoaihaaP1
namespace Go.Proofs.Ytdhhpnfdnoaihaa
open Go.RowKit

def lastRel (w wr : World) (p k : Nat) (d : List UInt8) : Prop := ∃ S st, Live w wr S p st ∧ Lasts (pad64 d) k st

set_option maxRecDepth 100000 in
set_option maxHeartbeats 1600000 in
theorem DiskLasts_walk (w : World) (v0 : Value) (l0 : List UInt8) (w0 : VBytes w v0 l0) (v1 : Value) (l1 : List Deed) (w1 : VDeeds w v1 l1) :
    Calls Try.prog 9 #[v0, v1] w fun e w' => e = .returned (.bool true) ∧ Below w.heap.size w w' := by
  obtain ⟨a0, c0, rfl, hl0, hrd⟩ := w0
  obtain ⟨a, cap, rfl, hll, hseen⟩ := w1
  have HS := hid (fun w' hm k hk => VDeeds.at hseen (w' := w') hm (k := k) hk)
  have HRD := hid hrd
  have HL0 := hid hl0
  have hl1 : l1.length < 3000000000000 := by omega
  clear hseen hrd hll hl0
  by_cases hb : 64 < l0.length
  · have hb' : (64 : Int) < (l0.length : Int) := by omega
    clear hb
    go_enter Try.func9, Try.ntmps9
    go_wp2_with fail
    refine (live_new w w (Mod.refl _ _) 8 8 (by omega)).mono ?_
    rintro e w1 ⟨p, S, rfl, hl, _, _⟩
    have HL := hid hl
    clear hl
    go_wp2_with fail
    refine (awake3_any _).mono ?_
    rintro e w2 ⟨rfl, hm⟩
    have HL2 := hid (HL.out.step hm)
    clear HL hm
    go_wp2_with fail
    refine (awake3_any _).mono ?_
    rintro e w3 ⟨rfl, hm⟩
    have HM3 := hid (HL2.out.2.1.trans hm)
    clear hm
    go_wp2_with fail
    go_ret
    exact ⟨rfl, HM3.out.below _ (Nat.le_refl _) (fun _ h => h.elim)⟩
  have hb' : ¬ (64 : Int) < (l0.length : Int) := by omega
  have HB := hid (show l0.length ≤ 64 by omega)
  clear hb
  go_enter Try.func9, Try.ntmps9
  go_wp2_with fail
  refine (live_new w w (Mod.refl _ _) 8 8 (by omega)).mono ?_
  rintro e w1 ⟨p, S, rfl, hl, _, _⟩
  have HL := hid hl
  clear hl
  go_wp2_with fail
  refine (awake3_any _).mono ?_
  rintro e w2 ⟨rfl, hm⟩
  have HL2 := hid (HL.out.step hm)
  clear HL hm
  go_wp2_with fail
  refine (live_write HL2.out 7 a0 c0 _ l0 rfl (HL2.out.2.1.rd HRD.out (fun _ _ h => h)) HL0.out (by simp [DSt.new])).mono ?_
  rintro e w3 ⟨S3, rfl, hl, _⟩
  have HL3 := hid hl
  clear hl HL2
  go_wp2_with fail
  refine (live_flush HL3.out).mono ?_
  rintro e w4 ⟨S4, rfl, hl, _⟩
  have HR : Hid (lastRel w w4 p 0 l0) := hid ⟨S4, _, hl, Lasts.start HB.out⟩
  clear hl HL3
  go_wp2_with fail
  go_loopw [6] (fun i wr => ∃ k : Nat, k ≤ l1.length ∧ i = .int .i64 k ∧ Hid (lastRel w wr p k l0)) (fun i _ => l1.length - (intOf i).toNat)
  case atStart => exact ⟨0, by omega, rfl, HR.out⟩
  case round =>
    obtain ⟨k, hk, rfl, hr⟩ := hrel
    obtain ⟨S5, st, hlv, hla⟩ := hr.out
    have HLV := hid hlv
    have HLA := hid hla
    clear hlv hla hr HR
    by_cases hlt : k < l1.length
    · obtain ⟨b, o, da, dc, rfl, h0, h1, h2, h3, hd1, hd2, hd3, bk, bi, bn⟩ := HS.out wr HLV.out.2.1 k hlt
      have HD := hid (And.intro hd1 hd3)
      have HBN := hid (And.intro bi bn)
      clear hd1 hd2 hd3 bk bi bn
      generalize l1[k] = dd at *
      obtain ⟨dk, di, dn, ddat⟩ := dd
      simp only at h0 h1 h2 h3
      by_cases k1 : dk = 1
      · subst k1
        by_cases i7 : di = 7
        · subst i7
          go_wp2_with fail
          have HR : Hid (lastRel w (wr.alloc (.cells #[.int .i64 1, .int .i64 7, .int .i64 dn, .slice da ddat.length dc] 47)) p (k + 1) l0) := hid ⟨S5, st, HLV.out.alloc _, HLA.out.mono (by omega)⟩
          go_roundw
          case rel => exact ⟨k + 1, by omega, by go_num, HR.out⟩
          case measure => simp [intOf]; omega
        · go_wp2_with fail
          refine (live_write (HLV.out.alloc _) di da dc _ ddat rfl (((Mod.refl None _).alloc _).rd HD.out.1 (fun _ _ h => h)) HD.out.2 (by have := HLA.out.few; omega)).mono ?_
          rintro e w6 ⟨S6, rfl, hl, _⟩
          have HR : Hid (lastRel w w6 p (k + 1) l0) := hid ⟨S6, _, hl, HLA.out.write i7 ddat⟩
          clear hl h0 h1 h2 h3
          go_wp2_with fail
          go_roundw
          case rel => exact ⟨k + 1, by omega, by go_num, HR.out⟩
          case measure => simp [intOf]; omega
      by_cases k2 : dk = 2
      · subst k2
        go_wp2_with fail
        refine (live_flush (HLV.out.alloc _)).mono ?_
        rintro e w6 ⟨S6, rfl, hl, _⟩
        have HR : Hid (lastRel w w6 p (k + 1) l0) := hid ⟨S6, _, hl, HLA.out.flush.mono (by omega)⟩
        clear hl h0 h1 h2 h3
        go_wp2_with fail
        go_roundw
        case rel => exact ⟨k + 1, by omega, by go_num, HR.out⟩
        case measure => simp [intOf]; omega
      by_cases k3 : dk = 3
      · subst k3
        go_wp2_with fail
        refine (live_arm (HLV.out.alloc _) dn HBN.out.2.2).mono ?_
        rintro e w6 ⟨S6, rfl, hl, _⟩
        have HR : Hid (lastRel w w6 p (k + 1) l0) := hid ⟨S6, _, hl, (HLA.out.arm dn).mono (by omega)⟩
        clear hl h0 h1 h2 h3
        go_wp2_with fail
        go_roundw
        case rel => exact ⟨k + 1, by omega, by go_num, HR.out⟩
        case measure => simp [intOf]; omega
      by_cases k4 : dk = 4
      · subst k4
        go_wp2_with fail
        refine (live_crash (HLV.out.alloc _) di dn).mono ?_
        rintro e w6 ⟨S6, rfl, hl, _⟩
        have HR : Hid (lastRel w w6 p (k + 1) l0) := hid ⟨S6, _, hl, (HLA.out.crash di dn).mono (by omega)⟩
        clear hl h0 h1 h2 h3
        go_wp2_with fail
        go_roundw
        case rel => exact ⟨k + 1, by omega, by go_num, HR.out⟩
        case measure => simp [intOf]; omega
      · go_wp2_with fail
        have HR : Hid (lastRel w (wr.alloc (.cells #[.int .i64 dk, .int .i64 di, .int .i64 dn, .slice da ddat.length dc] 47)) p (k + 1) l0) := hid ⟨S5, st, HLV.out.alloc _, HLA.out.mono (by omega)⟩
        go_roundw
        case rel => exact ⟨k + 1, by omega, by go_num, HR.out⟩
        case measure => simp [intOf]; omega
    · obtain rfl : k = l1.length := by omega
      go_wp2_with fail
      refine (live_crash HLV.out 0 0).mono ?_
      rintro e w6 ⟨S6, rfl, hl, _⟩
      have HL6 := hid hl
      have HT := hid HLA.out.told
      have HP0 := hid (pad64_length l0 HB.out)
      clear hl
      generalize st.crash 0 0 = st6 at *
      go_wp2_with fail
      refine (live_read HL6.out 7).mono ?_
      rw [HT.out]
      unfold LRead
      rw [HP0.out]
      rintro e w7 ⟨a7, rfl, _, hs, hl, _⟩
      have HRD7 := hid (hl.2.1.rd HRD.out (fun _ _ h => h))
      have HS7 := hid (fun w' (hm : Mod None w7 w') => str_rd (hm.rd hs.1 (fun _ _ h => h)) 64 64 HP0.out.symm)
      have HS8 := hid (fun w w' a (h : Fresh w w' a (pad64 l0)) => str_rd h.rd 64 64 HP0.out.symm)
      have HL7 := hid hl
      clear hl hs
      unfold Str at HS7 HS8
      generalize (⟨(pad64 l0).toArray⟩ : ByteArray) = ss at *
      have hc7 := HS7.out w7.drew (Mod.refl _ _).drew
      go_wp2_with fail
      go_region_with (go_at_call 34; refine (whole_any w7.drew a0 c0 l0 HRD7.out HB.out).mono ?_; rintro e w8 ⟨a8, rfl, hf, hm⟩; have hc7' := HS7.out w8 ((Mod.refl _ _).drew.trans hm); have hc8 := HS8.out _ _ _ hf; have HM8 := hid hm; clear hf hm)
      all_goals
        go_wp2
        go_ret
        exact ⟨rfl, ((HL7.out.2.1.drew).trans HM8.out).below _ (Nat.le_refl _) (fun _ h => h.elim)⟩
end Go.Proofs.Ytdhhpnfdnoaihaa

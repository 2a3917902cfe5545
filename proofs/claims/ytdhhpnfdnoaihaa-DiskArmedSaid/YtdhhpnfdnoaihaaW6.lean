/- The walk of DiskArmed. -/
import Derived.Test.YtdhhpnfdnoaihaaV2
import Derived.Test.YtdhhpnfdnoaihaaD9
namespace Go.Proofs.Ytdhhpnfdnoaihaa
open Go.RowKit

structure Armed (m : Nat) (st : DSt) : Prop where
  last : st.last.length = 3
  down : st.down = (m == 0)
  arm : 0 < m → st.armed = m
  few : st.waits.length + m ≤ 15
def codeOf (m : Nat) : Int := if m = 0 then 32 else 0
theorem Armed.start (n : Nat) (hn : n < 16) : Armed n ((DSt.new 3).arm' n) where
  last := by simp [DSt.arm', DSt.new]
  down := by simp [DSt.arm', DSt.new]; cases n <;> simp; omega
  arm := fun h => by simp [DSt.arm', DSt.new]; omega
  few := by simp [DSt.arm', DSt.new]; omega
theorem Armed.changed {m : Nat} {st : DSt} (h1 : st.last.length = 3) (h3 : st.armed = m) (h4 : st.waits.length + (m - 1) ≤ 15) (hm : 0 < m) : Armed (m - 1) st.changed := by
  have he : st.changed = { st with armed := st.armed - 1, down := st.armed - 1 == 0 } := by unfold DSt.changed; rw [if_pos (by omega)]
  rw [he]
  refine ⟨h1, ?_, fun h => ?_, h4⟩
  · show (st.armed - 1 == 0) = (m - 1 == 0)
    rw [h3, Bool.eq_iff_iff, beq_iff_eq, beq_iff_eq]; omega
  · show st.armed - 1 = _; omega
theorem Armed.write {m : Nat} {st : DSt} (h : Armed m st) {i : Int} (hi : 0 ≤ i ∧ i < 3) {d : List UInt8} (hd : d.length ≤ 64) : (st.write i d).2 = codeOf m ∧ Armed (m - 1) (st.write i d).1 := by
  have hl := h.last
  have hdn := h.down
  unfold DSt.write DSt.may codeOf
  by_cases hm : m = 0
  · subst hm
    simp at hdn
    simp [hdn, h]
  · have hdf : st.down = false := by rw [hdn]; simp [hm]
    simp only [hdf, hl, hm, Bool.false_eq_true, if_false]
    rw [if_neg (show ¬ (i < 0 ∨ ((3 : Nat) : Int) ≤ i) by omega)]
    rw [if_pos rfl, if_neg (show ¬ 64 < d.length by omega)]
    refine ⟨rfl, Armed.changed hl (h.arm (by omega)) ?_ (by omega)⟩
    have := h.few
    simp [DSt.put]; omega
theorem Armed.flush {m : Nat} {st : DSt} (h : Armed m st) : st.flush.2 = codeOf m ∧ Armed (m - 1) st.flush.1 := by
  have hl := h.last
  have hdn := h.down
  unfold DSt.flush codeOf
  by_cases hm : m = 0
  · subst hm
    simp at hdn
    simp [hdn, h]
  · have hdf : st.down = false := by rw [hdn]; simp [hm]
    simp only [hdf, hm, Bool.false_eq_true, if_false]
    refine ⟨trivial, Armed.changed ?_ (h.arm (by omega)) ?_ (by omega)⟩
    · show (setAll _ _).length = 3
      rw [setAll_length]; exact hl
    · have := h.few
      simp; omega
theorem Armed.again {st : DSt} (h : Armed 0 st) : st.arm' 99 = st := by
  have := h.down
  simp at this
  simp [DSt.arm', this]
theorem crash_last (st : DSt) (k t : Int) : (st.crash k t).last.length = st.last.length := by
  unfold DSt.crash DSt.crashed
  split
  · simp only [DSt.tear, DSt.settle, List.length_set, setAll_length]
  · simp only [DSt.settle, setAll_length]
def armRel (w wr : World) (p m : Nat) : Prop := ∃ S st, Live w wr S p st ∧ Armed m st

set_option maxRecDepth 100000 in
set_option maxHeartbeats 1600000 in
theorem DiskArmed_walk (w : World) (a0 : Int) (w0 : (Lit.int .u8 a0).wf = true) (v1 : Value) (l1 : List Bool) (w1 : VBools w v1 l1) :
    Calls Try.prog 8 #[.int .u8 a0, v1] w fun e w' => e = .returned (.bool true) ∧ Below w.heap.size w w' := by
  obtain ⟨a, cap, rfl, hll, hseen⟩ := w1
  have HS := hid (fun w' hm k hk => VBools.at hseen (w' := w') hm (k := k) hk)
  have ha : 0 ≤ a0 ∧ a0 ≤ 255 := by simpa [Lit.wf, IntKind.min, IntKind.max, IntKind.signed, IntKind.bits] using w0
  obtain ⟨n, hn, hn16⟩ : ∃ n : Nat, a0 % 16 = (n : Int) ∧ n < 16 := ⟨(a0 % 16).toNat, by omega, by omega⟩
  have HN := hid hn
  have HN16 := hid hn16
  have hq : 0 ≤ a0 ∧ a0 ≤ 255 := ha
  clear hseen w0 ha hn hn16
  go_enter Try.func8, Try.ntmps8
  go_wp2_with fail
  refine (live_new w w (Mod.refl _ _) 3 3 (by omega)).mono ?_
  rintro e w1 ⟨p, S, rfl, hl, _, _⟩
  have HL := hid hl
  clear hl
  go_wp2_with fail
  refine (awake3_any _).mono ?_
  rintro e w2 ⟨rfl, hm⟩
  have HL2 := hid (HL.out.step hm)
  clear HL hm
  go_wp2_with fail
  rw [HN.out]
  refine (live_arm HL2.out (n : Int) (by have := HN16.out; omega)).mono ?_
  rintro e w3 ⟨S3, rfl, hl, _⟩
  have HR : Hid (armRel w w3 p n) := hid ⟨S3, _, hl, Armed.start n HN16.out⟩
  clear hl HL2
  go_wp2_with fail
  go_loopw [6, 7] (fun l i wr => ∃ k m : Nat, k ≤ l1.length ∧ i = .int .i64 k ∧ l = .int .i64 m ∧ Hid (armRel w wr p m)) (fun _ i _ => l1.length - (intOf i).toNat)
  case atStart => exact ⟨0, n, by omega, rfl, by rw [HN.out], HR.out⟩
  case round =>
    obtain ⟨k, m, hk, rfl, rfl, hr⟩ := hrel
    obtain ⟨S4, st, hlv, har⟩ := hr.out
    have HLV := hid hlv
    have hm15 : m ≤ 15 := by have := har.few; omega
    have HAR := hid har
    clear hlv har hr
    by_cases hlt : k < l1.length
    · obtain ⟨b, o, rfl, hcell⟩ := HS.out wr HLV.out.2.1 k hlt
      generalize l1[k] = bb at *
      cases bb with
      | true =>
        go_wp2_with fail
        refine (live_flush HLV.out).mono ?_
        rintro e w5 ⟨S5, rfl, hl, _⟩
        rw [HAR.out.flush.1]
        have HL5 := hid hl
        have HA5 := hid HAR.out.flush.2
        clear hl HLV HAR hcell
        generalize st.flush.1 = st5 at *
        rcases Nat.eq_zero_or_pos m with rfl | hm
        · have HC := hid (show codeOf 0 = 32 from rfl)
          rw [HC.out]
          go_wp2_with fail
          refine (live_down HL5.out).mono ?_
          rintro e w6 ⟨rfl, rfl⟩
          rw [HA5.out.down]
          go_wp2_with fail
          refine (live_arm HL5.out 99 (by omega)).mono ?_
          rintro e w7 ⟨S7, rfl, hl, _⟩
          have HR7 : Hid (armRel w w7 p 0) := hid ⟨S7, _, hl, by rw [Armed.again HA5.out]; exact HA5.out⟩
          clear hl
          go_wp2_with fail
          go_roundw
          case rel => exact ⟨k + 1, 0, by omega, by go_num, rfl, HR7.out⟩
          case measure => simp [intOf]; omega
        · obtain ⟨r, rfl⟩ : ∃ r, m = r + 1 := ⟨m - 1, by omega⟩
          have HC := hid (show codeOf (r + 1) = 0 from rfl)
          rw [HC.out]
          have e1 : ((r + 1 : Nat) : Int) = (r : Int) + 1 := rfl
          rw [e1]
          have h0 : (0 : Int) < (r : Int) + 1 := by omega
          clear hm e1
          go_wp2_with fail
          refine (live_down HL5.out).mono ?_
          rintro e w6 ⟨rfl, rfl⟩
          rw [HA5.out.down]
          rcases Nat.eq_zero_or_pos r with rfl | hr
          · go_wp2_with fail
            refine (live_arm HL5.out 99 (by omega)).mono ?_
            rintro e w7 ⟨S7, rfl, hl, _⟩
            have HR7 : Hid (armRel w w7 p 0) := hid ⟨S7, _, hl, by rw [Armed.again HA5.out]; exact HA5.out⟩
            clear hl
            go_wp2_with fail
            go_roundw
            case rel => exact ⟨k + 1, 0, by omega, by go_num, rfl, HR7.out⟩
            case measure => simp [intOf]; omega
          · have hrn : (r == 0) = false := by rw [beq_eq_false_iff_ne]; omega
            have e2 : (r + 1 - 1 == 0) = false := hrn
            rw [e2]
            have h1 : ¬ (r : Int) = 0 := by omega
            have HR7 : Hid (armRel w w5 p r) := hid ⟨S5, _, HL5.out, HA5.out⟩
            clear e2 hrn hr
            go_wp2_with fail
            go_roundw
            case rel => exact ⟨k + 1, r, by omega, by go_num, by go_num, HR7.out⟩
            case measure => simp [intOf]; omega
      | false =>
        go_wp2_with fail
        refine (live_write (HLV.out.alloc _) ((k : Int) % 3) _ _ _ [UInt8.ofNat (k % 256)] rfl (rd_lit _ _ _ ?_ _ _ rfl) (by simp) (by have := HAR.out.few; omega)).mono ?_
        · have : (UInt8.ofNat (k % 256)).toNat = k % 256 := by rw [UInt8.toNat_ofNat']; omega
          simp [B, this]
        rintro e w5 ⟨S5, rfl, hl, _⟩
        have hw := HAR.out.write (i := (k : Int) % 3) (by omega) (d := [UInt8.ofNat (k % 256)]) (by simp)
        rw [hw.1]
        have HL5 := hid hl
        have HA5 := hid hw.2
        clear hl hw HLV HAR hcell
        generalize (st.write _ _).1 = st5 at *
        rcases Nat.eq_zero_or_pos m with rfl | hm
        · have HC := hid (show codeOf 0 = 32 from rfl)
          rw [HC.out]
          go_wp2_with fail
          refine (live_down HL5.out).mono ?_
          rintro e w6 ⟨rfl, rfl⟩
          rw [HA5.out.down]
          go_wp2_with fail
          refine (live_arm HL5.out 99 (by omega)).mono ?_
          rintro e w7 ⟨S7, rfl, hl, _⟩
          have HR7 : Hid (armRel w w7 p 0) := hid ⟨S7, _, hl, by rw [Armed.again HA5.out]; exact HA5.out⟩
          clear hl
          go_wp2_with fail
          go_roundw
          case rel => exact ⟨k + 1, 0, by omega, by go_num, rfl, HR7.out⟩
          case measure => simp [intOf]; omega
        · obtain ⟨r, rfl⟩ : ∃ r, m = r + 1 := ⟨m - 1, by omega⟩
          have HC := hid (show codeOf (r + 1) = 0 from rfl)
          rw [HC.out]
          have e1 : ((r + 1 : Nat) : Int) = (r : Int) + 1 := rfl
          rw [e1]
          have h0 : (0 : Int) < (r : Int) + 1 := by omega
          clear hm e1
          go_wp2_with fail
          refine (live_down HL5.out).mono ?_
          rintro e w6 ⟨rfl, rfl⟩
          rw [HA5.out.down]
          rcases Nat.eq_zero_or_pos r with rfl | hr
          · go_wp2_with fail
            refine (live_arm HL5.out 99 (by omega)).mono ?_
            rintro e w7 ⟨S7, rfl, hl, _⟩
            have HR7 : Hid (armRel w w7 p 0) := hid ⟨S7, _, hl, by rw [Armed.again HA5.out]; exact HA5.out⟩
            clear hl
            go_wp2_with fail
            go_roundw
            case rel => exact ⟨k + 1, 0, by omega, by go_num, rfl, HR7.out⟩
            case measure => simp [intOf]; omega
          · have hrn : (r == 0) = false := by rw [beq_eq_false_iff_ne]; omega
            have e2 : (r + 1 - 1 == 0) = false := hrn
            rw [e2]
            have h1 : ¬ (r : Int) = 0 := by omega
            have HR7 : Hid (armRel w w5 p r) := hid ⟨S5, _, HL5.out, HA5.out⟩
            clear e2 hrn hr
            go_wp2_with fail
            go_roundw
            case rel => exact ⟨k + 1, r, by omega, by go_num, by go_num, HR7.out⟩
            case measure => simp [intOf]; omega
    · obtain rfl : k = l1.length := by omega
      go_wp2_with fail
      refine (live_arm HLV.out (-1) (by omega)).mono ?_
      rintro e w5 ⟨S5, rfl, hl, _⟩
      have HL5 := hid hl
      clear hl
      go_wp2_with fail
      refine (live_crash HL5.out 0 0).mono ?_
      rintro e w6 ⟨S6, rfl, hl, _⟩
      have HL6 := hid hl
      clear hl
      go_wp2_with fail
      refine (live_down HL6.out).mono ?_
      rintro e w7 ⟨rfl, rfl⟩
      have hd : ((st.arm' (-1)).crash 0 0).down = false := rfl
      have hw : ((st.arm' (-1)).crash 0 0).waits = [] := rfl
      have ht : ((st.arm' (-1)).crash 0 0).last.length = 3 := by
        rw [crash_last]; unfold DSt.arm'; split <;> exact HAR.out.last
      generalize (st.arm' (-1)).crash 0 0 = st6 at *
      rw [hd]
      have HX := hid (And.intro hd (And.intro hw ht))
      clear hd hw ht
      go_wp2_with fail
      refine (live_write HL6.out 0 none 0 0 [] rfl (.inl rfl) (by simp) (by rw [HX.out.2.1]; decide)).mono ?_
      rintro e w8 ⟨S8, rfl, hl, _⟩
      have hm0 : st6.may 0 = 0 := by unfold DSt.may; rw [HX.out.1, HX.out.2.2]; rfl
      have hw0 : (st6.write 0 []).2 = 0 := by unfold DSt.write; rw [if_pos hm0]; rfl
      rw [hw0]
      have HL8 := hid hl
      clear hl hm0 hw0
      go_wp2_with fail
      go_ret
      exact ⟨rfl, HL8.out.2.1.below _ (Nat.le_refl _) (fun _ h => h.elim)⟩
end Go.Proofs.Ytdhhpnfdnoaihaa

/- octet.PutInt, a journal's frame. -/
import Derived.Test.YtdhhpnfdnoaihaaJ2
import Derived.Test.YtdhhpnfdnoaihaaE5
namespace Go.Proofs.Ytdhhpnfdnoaihaa
open Go.RowKit

def byt (n : Int) : UInt8 := UInt8.ofNat (n % 256).toNat
theorem byt_nat (n : Int) : ((byt n).toNat : Int) = n % 256 := by
  unfold byt
  rw [UInt8.toNat_ofNat']; omega
/-- a number's eight bytes -/
def be8 (n : Int) : List UInt8 := [byt (n / 72057594037927936), byt (n / 281474976710656), byt (n / 1099511627776), byt (n / 4294967296), byt (n / 16777216), byt (n / 65536), byt (n / 256), byt n]
theorem be8_len (n : Int) : (be8 n).length = 8 := rfl
def zeros8 : List UInt8 := List.replicate 8 0
theorem parts2 (w : World) (C : Array Value) (v1 v2 : Value) (hC : C = #[v1, v2]) (l1 l2 : List UInt8) (h1 : Part w v1 l1) (h2 : Part w v2 l2) (q : Nat) (hq : q = w.heap.size) : RdSS (w.alloc (.cells C 27)) (some ⟨q, 0, none⟩) [l1, l2] := by
  subst hC hq
  refine .inr ⟨_, 0, rfl, fun i hi => ?_⟩
  have hm : Mod None w (w.alloc (.cells #[v1, v2] 27)) := (Mod.refl _ _).alloc _
  match i, hi with
  | 0, _ => exact ⟨v1, by rw [Nat.zero_add, cell_new]; rfl, h1.mod hm (fun _ _ h => h)⟩
  | 1, _ => exact ⟨v2, by rw [Nat.zero_add, cell_new]; rfl, h2.mod hm (fun _ _ h => h)⟩
theorem parts1 (w : World) (C : Array Value) (v1 : Value) (hC : C = #[v1]) (l1 : List UInt8) (h1 : Part w v1 l1) (q : Nat) (hq : q = w.heap.size) : RdSS (w.alloc (.cells C 27)) (some ⟨q, 0, none⟩) [l1] := by
  subst hC hq
  refine .inr ⟨_, 0, rfl, fun i hi => ?_⟩
  have hm : Mod None w (w.alloc (.cells #[v1] 27)) := (Mod.refl _ _).alloc _
  match i, hi with
  | 0, _ => exact ⟨v1, by rw [Nat.zero_add, cell_new]; rfl, h1.mod hm (fun _ _ h => h)⟩
theorem OwnB.base {w : World} {b b' : Nat} {v : Value} {l : List UInt8} (h : OwnB w b v l) (hb : b' ≤ b) : OwnB w b' v l := by
  obtain ⟨h1, h2⟩ := h
  refine ⟨h1, ?_⟩
  rcases h2 with h2 | ⟨g, cap, cur, rfl, hg, r⟩
  · exact .inl h2
  · exact .inr ⟨g, cap, cur, rfl, Nat.le_trans hb hg, r⟩
theorem rowpost_back {w w1 w2 : World} {l m : List UInt8} {e : Ending} (h : RowPost l w1 e w2) (hl : l = m) (hm : Mod None w w1) : RowPost m w e w2 := by
  subst hl
  obtain ⟨a, c, rfl, ho, hm2⟩ := h
  exact ⟨a, c, rfl, ho.base hm.size, hm.trans hm2⟩
set_option maxRecDepth 100000 in
set_option maxHeartbeats 1600000 in
theorem putint_any (w : World) (a : Option Addr) (c : Nat) (l : List UInt8) (hr : Rd w a l) (hl : l.length ≤ 1000) (n : Int) (hn : 0 ≤ n ∧ n < 9223372036854775808) :
    Calls Try.prog 99 #[.slice a l.length c, .int .i64 n] w (RowPost (l ++ be8 n) w) := by
  have HR := hid hr
  clear hr
  have HB := hid (be8_len n)
  have H0 := hid (show zeros8.length = 8 from rfl)
  go_enter Try.func99, Try.ntmps99
  go_wp2_with fail
  go_loopw [7] (fun i wr => ∃ k : Nat, k ≤ 8 ∧ i = .int .i64 k ∧ Hid (Blk wr w.heap.size 171 ((mix (be8 n) zeros8 k).map B)) ∧ Hid (Mod None w wr)) (fun i _ => 8 - (intOf i).toNat)
  case atStart => exact ⟨0, by omega, rfl, Blk.new w 171 _, (Mod.refl _ _).alloc _⟩
  case round =>
    obtain ⟨k, hk, rfl, hb, hm⟩ := hrel
    by_cases hlt : k < 8
    · have HNX := hid (fun c (hc : (be8 n)[k]? = some c) => mix_set (old := zeros8) hc rfl)
      have hfr := hb.out.free k
      have hcell : wr.cell? ⟨w.heap.size, k, none⟩ ≠ none := by
        rw [hb.out.cell]
        have : k < ((mix (be8 n) zeros8 k).map B).length := by simp [mix, be8_len]; rw [show zeros8.length = 8 from rfl]; omega
        simp [List.getElem?_eq_getElem this]
      obtain ⟨cv, hcell⟩ := Option.ne_none_iff_exists'.1 hcell
      have HST := hid (fun v => (hb.out.set k v))
      have HMS := hid (fun v => hm.out.set (p := ⟨w.heap.size, k, none⟩) (.inr (Nat.le_refl _)) v)
      clear hb hm
      have hu : IntKind.u64.wrap n = n := by simp [IntKind.wrap, IntKind.bits, IntKind.signed]; omega
      rcases (show k = 0 ∨ k = 1 ∨ k = 2 ∨ k = 3 ∨ k = 4 ∨ k = 5 ∨ k = 6 ∨ k = 7 by omega) with rfl | rfl | rfl | rfl | rfl | rfl | rfl | rfl
      · go_wp2_with fail
        go_roundw
        case rel =>
          refine ⟨1, by omega, rfl, ?_, HMS.out _⟩
          have h := HST.out (.int .u8 ((byt (n / 72057594037927936)).toNat : Int))
          rw [HNX.out _ rfl] at h
          rw [byt_nat] at h
          show Blk _ _ _ _
          first | exact h | (rw [show n / 72057594037927936 % 256 = n / 72057594037927936 by omega] at h; exact h)
        case measure => simp [intOf]
      · go_wp2_with fail
        go_roundw
        case rel =>
          refine ⟨2, by omega, rfl, ?_, HMS.out _⟩
          have h := HST.out (.int .u8 ((byt (n / 281474976710656)).toNat : Int))
          rw [HNX.out _ rfl] at h
          rw [byt_nat] at h
          show Blk _ _ _ _
          first | exact h | (rw [show n / 281474976710656 % 256 = n / 281474976710656 by omega] at h; exact h)
        case measure => simp [intOf]
      · go_wp2_with fail
        go_roundw
        case rel =>
          refine ⟨3, by omega, rfl, ?_, HMS.out _⟩
          have h := HST.out (.int .u8 ((byt (n / 1099511627776)).toNat : Int))
          rw [HNX.out _ rfl] at h
          rw [byt_nat] at h
          show Blk _ _ _ _
          first | exact h | (rw [show n / 1099511627776 % 256 = n / 1099511627776 by omega] at h; exact h)
        case measure => simp [intOf]
      · go_wp2_with fail
        go_roundw
        case rel =>
          refine ⟨4, by omega, rfl, ?_, HMS.out _⟩
          have h := HST.out (.int .u8 ((byt (n / 4294967296)).toNat : Int))
          rw [HNX.out _ rfl] at h
          rw [byt_nat] at h
          show Blk _ _ _ _
          first | exact h | (rw [show n / 4294967296 % 256 = n / 4294967296 by omega] at h; exact h)
        case measure => simp [intOf]
      · go_wp2_with fail
        go_roundw
        case rel =>
          refine ⟨5, by omega, rfl, ?_, HMS.out _⟩
          have h := HST.out (.int .u8 ((byt (n / 16777216)).toNat : Int))
          rw [HNX.out _ rfl] at h
          rw [byt_nat] at h
          show Blk _ _ _ _
          first | exact h | (rw [show n / 16777216 % 256 = n / 16777216 by omega] at h; exact h)
        case measure => simp [intOf]
      · go_wp2_with fail
        go_roundw
        case rel =>
          refine ⟨6, by omega, rfl, ?_, HMS.out _⟩
          have h := HST.out (.int .u8 ((byt (n / 65536)).toNat : Int))
          rw [HNX.out _ rfl] at h
          rw [byt_nat] at h
          show Blk _ _ _ _
          first | exact h | (rw [show n / 65536 % 256 = n / 65536 by omega] at h; exact h)
        case measure => simp [intOf]
      · go_wp2_with fail
        go_roundw
        case rel =>
          refine ⟨7, by omega, rfl, ?_, HMS.out _⟩
          have h := HST.out (.int .u8 ((byt (n / 256)).toNat : Int))
          rw [HNX.out _ rfl] at h
          rw [byt_nat] at h
          show Blk _ _ _ _
          first | exact h | (rw [show n / 256 % 256 = n / 256 by omega] at h; exact h)
        case measure => simp [intOf]
      · go_wp2_with fail
        go_roundw
        case rel =>
          refine ⟨8, by omega, rfl, ?_, HMS.out _⟩
          have h := HST.out (.int .u8 ((byt (n)).toNat : Int))
          rw [HNX.out _ rfl] at h
          rw [byt_nat] at h
          show Blk _ _ _ _
          first | exact h | (rw [show n % 256 = n by omega] at h; exact h)
        case measure => simp [intOf]
    · obtain rfl : k = 8 := by omega
      have hx : Rd wr (some ⟨w.heap.size, 0, none⟩) (be8 n) := hb.out.rdv 0 (fun i _ => by rw [Nat.zero_add]; rfl)
      have HP := hid (parts2 wr _ (.slice a l.length c) (.slice (some ⟨w.heap.size, 0, none⟩) 8 8) rfl l (be8 n) ⟨a, c, rfl, hm.out.rd HR.out (fun _ _ h => h), by omega⟩ ⟨_, 8, rfl, hx, by rw [be8_len]; omega⟩ _ rfl)
      have HM := hid hm.out
      clear hb hm hx hlt
      go_wp2_with fail
      refine (concat_any _ _ 2 [l, be8 n] HP.out (by simp) (by simp [be8_len]) (by simp [be8_len]; omega)).mono ?_
      rintro e w2 hp
      have HQ := hid (rowpost_back hp (show [l, be8 n].flatten = l ++ be8 n by simp) (HM.out.alloc _))
      clear hp
      obtain ⟨xa, xc, rfl, hx⟩ := HQ.out
      go_wp2_with fail
      go_ret
      exact ⟨xa, xc, by simp, hx⟩
def frameL (b : List UInt8) : List UInt8 := be8 b.length ++ be8 ((csum b).toNat : Int) ++ b
theorem frameL_len (b : List UInt8) : (frameL b).length = b.length + 16 := by simp [frameL, be8_len]; omega
set_option maxRecDepth 100000 in
set_option maxHeartbeats 1600000 in
theorem frame_any (w : World) (a : Option Addr) (c : Nat) (b : List UInt8) (hr : Rd w a b) (hb : b.length ≤ 1048576) : Calls Try.prog 81 #[.slice a b.length c] w (RowPost (frameL b) w) := by
  have HR := hid hr
  have HF := hid (frameL_len b)
  have HFE := hid (show (be8 (b.length : Int) ++ be8 ((csum b).toNat : Int)) ++ b = frameL b from rfl)
  have hcs := (csum b).isLt
  clear hr
  go_enter Try.func81, Try.ntmps81
  go_wp2_with fail
  refine (putint_any w none 0 [] (.inl rfl) (by simp) b.length (by omega)).mono ?_
  rintro e w1 ⟨a1, c1, rfl, ho1, hm1⟩
  rw [List.nil_append] at ho1
  have H1 := hid ho1
  have HM1 := hid hm1
  clear ho1 hm1
  go_wp2_with fail
  have HP := parts1 w1 _ (.slice a b.length c) rfl b ⟨a, c, rfl, HM1.out.rd HR.out (fun _ _ h => h), by omega⟩ _ rfl
  have hs := sum_any _ 1 [b] _ HP (by simp)
  rw [show [b].flatten = b by simp] at hs
  refine hs.mono ?_
  rintro e w2 ⟨rfl, rfl⟩
  have HM2 := hid (HM1.out.alloc (.cells #[.slice a b.length c] 27))
  have H2 := hid (H1.out.kept (S := None) ((Mod.refl None w1).alloc (.cells #[.slice a b.length c] 27)) (fun _ _ h => h))
  clear HP hs H1
  obtain ⟨ax, cx, e8, hr8⟩ := H2.out.rd
  obtain ⟨rfl, rfl⟩ : a1 = ax ∧ c1 = cx := by cases e8; exact ⟨rfl, rfl⟩
  have HR8 := hid hr8
  clear e8 hr8
  unfold U32
  go_wp2_with fail
  refine (putint_any _ a1 c1 (be8 (b.length : Int)) HR8.out (by rw [be8_len]; omega) ((csum b).toNat : Int) (by omega)).mono ?_
  rintro e w3 ⟨a3, c3, rfl, ho3, hm3⟩
  have H3 := hid ho3
  have HM3 := hid (HM2.out.trans hm3)
  have HBS := hid hm3.size
  have HS3 := hid (HM2.out.size)
  clear ho3 hm3
  have HL := hid (show (be8 (b.length : Int) ++ be8 ((csum b).toNat : Int)).length = 16 by simp [be8_len])
  generalize be8 (b.length : Int) ++ be8 ((csum b).toNat : Int) = h16 at *
  go_wp2_with (at_builtin; go_loud (refine wpList_append_b2 rfl (.tmp 10) (.tmp 11) rfl _ _ h16 rfl H3.out a b _ _ rfl rfl (HM3.out.rd HR.out (fun _ _ h => h)) (by have := HL.out; omega) HBS.out (frameL b) HFE.out.symm _ rfl None w HM3.out HS3.out ?_); intro va vcap w' HO HG)
  go_ret
  exact ⟨va, vcap, rfl, HO.out.base HS3.out, HG.out⟩
end Go.Proofs.Ytdhhpnfdnoaihaa

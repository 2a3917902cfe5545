import Derived.RangeFuncNested
import Derived.RangeFuncBound
import Derived.RangeFuncCalls
import Derived.RangeFuncLeaves
import Derived.Shelf.Abstract
import Derived.Shelf.RegionOpen
import Derived.OwnWalkIn
import Derived.TacticsInMore
import Derived.LoopNIn
import Derived.LoopIn
import Derived.Deep.Cut
import Derived.Test.YtdhhpnfdnoaihaaY2
/-! J1 -/
/- slices.Grow, slices.Concat, slices.Clone of bytes. -/
namespace Go.Proofs.Ytdhhpnfdnoaihaa
open Go.RowKit

theorem run_append_zeros (w : World) (n : Nat) (h0 : 0 < n) (hn : n ≤ 140737488355328) (ty : TypeId) :
    (Builtin.append_ #[27, 3] ty #[.slice none 0 0, .int .i64 (n : Int)]).run Try.prog w =
      .ok (.slice (some ⟨w.heap.size, 0, none⟩) n (grownCap w n 0 5)) (w.drew.alloc (.cells (Builtin.zeroCells (Value.int .u8 0).cells n ++ Builtin.zeroCells (Value.int .u8 0).cells (grownCap w n 0 5 - n)) 5)) := by
  obtain ⟨i, hi, hz, h1, h2⟩ := info_parts l_info5
  have hw : IntKind.i64.wrap (n : Int) = n := wrap_in n (by omega)
  have hn0 : n ≠ 0 := by omega
  have h63 : ¬ (9223372036854775807 < (n : Int)) := by omega
  have h48 : ¬ (281474976710656 < Builtin.nextslicecap n 0 * i.bytes) := by rw [nextslicecap_zero h0, h2]; omega
  have hneg : ¬ ((n : Int) < 0) := by omega
  have h48i : ¬ (281474976710656 < (n : Int)) := by omega
  have hmx : max (n : Int) 0 = n := by omega
  have h48' : ¬ (281474976710656 < Builtin.nextslicecap n 0) := by rw [nextslicecap_zero h0]; omega
  simp [Builtin.append_, run_underlying l_und27, run_underlying v_und3, sizeOf, typeInfo, zeroValue, hi, hz, h1, h2, Builtin.lenOf, Builtin.firstCells, hn0, hw, hneg, h48i, h63, asInt, asIntOf, Question.forced, newRow, grownCap, hmx, h48']
def RowPost (l : List UInt8) (w : World) (e : Ending) (w' : World) : Prop := ∃ a c, e = .returned (.slice a l.length c) ∧ OwnB w' w.heap.size (.slice a l.length c) l ∧ Mod None w w'
theorem zero_cells (n : Nat) : (Builtin.zeroCells (Value.int .u8 0).cells n).size = n := by simp [size_zeroCells, Value.cells]
theorem grow_own (w : World) (m : Nat) (C : Array Value) (hC : C.size = m) (hm : m ≤ maxLen) : OwnB ((w.drew.alloc (.cells C 5))) w.heap.size (.slice (some ⟨w.heap.size, 0, none⟩) 0 m) [] := by
  refine ⟨rfl, .inr ⟨w.heap.size, m, C, rfl, Nat.le_refl _, ?_, Nat.zero_le _, hm, by rw [hC]; omega, by simp⟩⟩
  exact heap_alloc_new w.drew _
theorem wp_append_z {w : World} {o : Oper} {a : Act} {K : Act → World → Prop} {Q : Exit → Act → World → Prop} (s x : Operand)
    (ho : o.op = .call { callee := .builtin .append, args := #[s, x], argTypes := #[27, 3] }) (n : Nat) (hs : a.eval s = .slice none 0 0) (hx : a.eval x = .int .i64 (n : Int)) (m : Nat) (C : Array Value)
    (hr : (Builtin.append_ #[27, 3] o.type #[.slice none 0 0, .int .i64 (n : Int)]).run Try.prog w = .ok (.slice (some ⟨w.heap.size, 0, none⟩) n m) (w.drew.alloc (.cells C 5)))
    (h : K (a.put o.dst (.slice (some ⟨w.heap.size, 0, none⟩) n m)) (w.drew.alloc (.cells C 5))) : o.wp Try.prog a w K Q := by
  unfold Oper.wp execOp
  simp only [ho, resolve, invoke, builtin, Sem.run_bind, Sem.run_pure, Result.andThen_ok, List.map_toArray, List.map_cons, List.map_nil, hs, hx, hr]
  exact h
set_option maxRecDepth 100000 in
set_option maxHeartbeats 800000 in
theorem grow_any (w : World) (n : Nat) (h0 : 0 < n) (hn : n ≤ 140737488355328) : Calls Try.prog 100 #[.slice none 0 0, .int .i64 (n : Int)] w (RowPost [] w) := by
  have hz := run_append_zeros w n h0 hn 27
  have HZ := hid hz
  have hge := grownCap_ge w n 0 5
  have hle := grownCap_le_maxLen w n 0 5 (by unfold maxLen; omega)
  have HE := hid (grow_own w (grownCap w n 0 5) (Builtin.zeroCells (Value.int .u8 0).cells n ++ Builtin.zeroCells (Value.int .u8 0).cells (grownCap w n 0 5 - n)) (by rw [Array.size_append, zero_cells, zero_cells]; omega) hle)
  generalize Builtin.zeroCells (Value.int .u8 0).cells n ++ Builtin.zeroCells (Value.int .u8 0).cells (grownCap w n 0 5 - n) = C at *
  generalize grownCap w n 0 5 = m at *
  have hn1 : ¬ ((n : Int) < 0) := by omega
  have hn2 : (0 : Int) < (n : Int) := by omega
  unfold maxLen at hle
  clear hz
  go_enter Try.func100, Try.ntmps100
  go_wp2_with (at_builtin; go_loud (refine wpList_plain rfl (fun K hK => wp_append_z (.tmp 20) (.tmp 21) rfl n rfl rfl m C HZ.out (hK _ _ ?_))))
  go_ret
  exact ⟨_, _, rfl, HE.out, ((Mod.refl None w).drew).alloc _⟩
end Go.Proofs.Ytdhhpnfdnoaihaa

/-! J2 -/
/- slices.Concat of bytes. -/
namespace Go.Proofs.Ytdhhpnfdnoaihaa
open Go.RowKit

theorem RdSS.mod {w w' : World} {a : Option Addr} {ls : List (List UInt8)} (h : RdSS w a ls) (hm : Mod None w w') : RdSS w' a ls := by
  rcases h with rfl | ⟨b, o, rfl, hc⟩
  · exact .inl rfl
  · refine .inr ⟨b, o, rfl, fun i hi => ?_⟩
    obtain ⟨v, hv, hp⟩ := hc i hi
    exact ⟨v, (hm.cell (p := ⟨b, o + i, none⟩) (World.block_lt_of_cell? w _ hv) (fun h => h)).trans hv, hp.mod hm (fun _ _ h => h)⟩
theorem take_len_le (ls : List (List UInt8)) (k : Nat) : (ls.take k).flatten.length ≤ ls.flatten.length := by
  have : ls.flatten = (ls.take k).flatten ++ (ls.drop k).flatten := by rw [← List.flatten_append, List.take_append_drop]
  rw [this, List.length_append]; omega
def catRel (w wr : World) (ls : List (List UInt8)) (k : Nat) (v : Value) : Prop := OwnB wr w.heap.size v (ls.take k).flatten ∧ Mod None w wr
set_option maxRecDepth 100000 in
set_option maxHeartbeats 1600000 in
theorem concat_any (w : World) (a : Option Addr) (cap : Nat) (ls : List (List UInt8)) (h : RdSS w a ls) (hl : ls.length ≤ 1000000) (h0 : 0 < ls.flatten.length) (hb : ls.flatten.length ≤ 100000000) :
    Calls Try.prog 82 #[.slice a ls.length cap] w (RowPost ls.flatten w) := by
  have HS := hid (fun w' hm => RdSS.mod h (w' := w') hm)
  have HT := hid (fun k => take_len_le ls k)
  clear h
  go_enter Try.func82, Try.ntmps82
  go_wp2_with fail
  go_loopw [3, 11] (fun x i wr => ∃ k : Nat, k ≤ ls.length ∧ i = .int .i64 k ∧ x = .int .i64 ((ls.take k).flatten.length : Nat) ∧ w = wr) (fun _ i _ => ls.length - (intOf i).toNat)
  case atStart => exact ⟨0, by omega, rfl, by simp, rfl⟩
  case round =>
    obtain ⟨k, hk, rfl, rfl, rfl⟩ := hrel
    by_cases hlt : k < ls.length
    · rcases HS.out w (Mod.refl _ _) with rfl | ⟨b, o, rfl, hcell⟩
      · simp at hlt
      obtain ⟨pv, hpv, hpart⟩ := hcell k hlt
      obtain ⟨pa, pc, rfl, hprd⟩ := part_len hpart
      have HF := hid (congrArg List.length (flatten_take ls k hlt))
      have hk1 := HT.out (k + 1)
      rw [HF.out, List.length_append] at hk1
      rw [List.length_append] at HF
      clear hprd hpart hcell
      generalize (ls.take k).flatten.length = fl at *
      generalize ls[k].length = pl at *
      generalize hfl : ls.flatten.length = tl at *
      have hlt' : (k : Int) < (ls.length : Int) := by omega
      go_wp2_with fail
      go_roundw
      case rel => exact ⟨k + 1, by omega, by go_num, by rw [HF.out]; go_num, trivial⟩
      case measure => simp [intOf]; omega
    · obtain rfl : k = ls.length := by omega
      have hlt' : ¬ (ls.length : Int) < (ls.length : Int) := by omega
      rw [List.take_length]
      clear hlt
      have HG := hid (grow_any w ls.flatten.length h0 (by omega))
      generalize hfl : ls.flatten.length = fl at *
      have HFL := hid hfl
      clear hfl
      go_wp2_with fail
      refine HG.out.mono ?_
      rintro e w2 ⟨ga, gc, rfl, hown, hm⟩
      have HO := hid hown
      have HM := hid hm
      clear hown hm
      go_wp2_with fail
      go_loopw [6, 27] (fun v i wq => ∃ k : Nat, k ≤ ls.length ∧ i = .int .i64 k ∧ Hid (∃ b c, v = .slice b (ls.take k).flatten.length c) ∧ Hid (catRel w wq ls k v)) (fun _ i _ => ls.length - (intOf i).toNat)
      case atStart => exact ⟨0, by omega, rfl, ⟨_, _, rfl⟩, HO.out, HM.out⟩
      case round =>
        obtain ⟨k, hk, rfl, hv, hr⟩ := hrel
        obtain ⟨vb, vc, rfl⟩ := hv.out
        clear hv
        by_cases hlt : k < ls.length
        · rcases HS.out wr hr.out.2 with rfl | ⟨b, o, rfl, hcell⟩
          · simp at hlt
          obtain ⟨pv, hpv, hpart⟩ := hcell k hlt
          obtain ⟨pa, pc, rfl, hprd⟩ := part_len hpart
          have HP := hid hprd
          have HF := hid (flatten_take ls k hlt)
          have hk1 := HT.out (k + 1)
          rw [HF.out, List.length_append] at hk1
          have HK1 := hid hk1
          have HO0 := hid hr.out.1
          have HM0 := hid hr.out.2
          have HB := hid (show ∀ va vc, ∃ b c, Value.slice va (ls.take (k + 1)).flatten.length vc = .slice b (ls.take (k + 1)).flatten.length c from fun _ _ => ⟨_, _, rfl⟩)
          clear hprd hpart hcell hk1 hr
          generalize hp : ls[k] = p at *
          generalize hfl2 : (ls.take k).flatten = f2 at *
          generalize hn2 : (ls.take (k + 1)).flatten.length = n2 at *
          have HN2 := hid hn2
          clear hp hfl2 hn2
          have hlt' : (k : Int) < (ls.length : Int) := by omega
          go_wp2_with (at_builtin; go_loud (refine wpList_append_b2 rfl (.tmp 31) (.tmp 32) rfl w.heap.size _ f2 rfl HO0.out pa p _ _ rfl rfl HP.out (by have := HK1.out; have := HFL.out; omega) HM0.out.size _ HF.out n2 HN2.out.symm None w HM0.out (Nat.le_refl _) ?_); intro va vcap w' HO HG)
          go_roundw
          case rel => exact ⟨k + 1, by omega, by go_num, by rw [HN2.out]; exact HB.out _ _, HO.out, HG.out⟩
          case measure => simp [intOf]; omega
        · obtain rfl : k = ls.length := by omega
          rw [List.take_length] at *
          have hlt' : ¬ (ls.length : Int) < (ls.length : Int) := by omega
          have HR := hid hr.out
          clear hr hlt
          go_wp2_with fail
          go_ret
          exact ⟨vb, vc, by have h := HFL.out; rw [List.length_flatten] at h; simp [h, HFL.out], by have := HR.out.1; rw [List.take_length] at this; exact this, HR.out.2⟩
end Go.Proofs.Ytdhhpnfdnoaihaa

/-! J3 -/
/- octet.PutInt, a journal's frame. -/
namespace Go.Proofs.Ytdhhpnfdnoaihaa
open Go.RowKit

def byt (n : Int) : UInt8 := UInt8.ofNat (n % 256).toNat
theorem byt_nat (n : Int) : ((byt n).toNat : Int) = n % 256 := by
  unfold byt
  rw [UInt8.toNat_ofNat']; omega
/-- a number's eight bytes -/
def be8 (n : Int) : List UInt8 := [byt (n / 72057594037927936), byt (n / 281474976710656), byt (n / 1099511627776), byt (n / 4294967296), byt (n / 16777216), byt (n / 65536), byt (n / 256), byt n]
theorem be8_len (n : Int) : (be8 n).length = 8 := rfl
def zeros8 : List UInt8 := List.replicate 8 0
theorem parts2 (w : World) (C : Array Value) (v1 v2 : Value) (hC : C = #[v1, v2]) (l1 l2 : List UInt8) (h1 : Part w v1 l1) (h2 : Part w v2 l2) (q : Nat) (hq : q = w.heap.size) : RdSS (w.alloc (.cells C 27)) (some ⟨q, 0, none⟩) [l1, l2] := by
  subst hC hq
  refine .inr ⟨_, 0, rfl, fun i hi => ?_⟩
  have hm : Mod None w (w.alloc (.cells #[v1, v2] 27)) := (Mod.refl _ _).alloc _
  match i, hi with
  | 0, _ => exact ⟨v1, by rw [Nat.zero_add, cell_new]; rfl, h1.mod hm (fun _ _ h => h)⟩
  | 1, _ => exact ⟨v2, by rw [Nat.zero_add, cell_new]; rfl, h2.mod hm (fun _ _ h => h)⟩
theorem parts1 (w : World) (C : Array Value) (v1 : Value) (hC : C = #[v1]) (l1 : List UInt8) (h1 : Part w v1 l1) (q : Nat) (hq : q = w.heap.size) : RdSS (w.alloc (.cells C 27)) (some ⟨q, 0, none⟩) [l1] := by
  subst hC hq
  refine .inr ⟨_, 0, rfl, fun i hi => ?_⟩
  have hm : Mod None w (w.alloc (.cells #[v1] 27)) := (Mod.refl _ _).alloc _
  match i, hi with
  | 0, _ => exact ⟨v1, by rw [Nat.zero_add, cell_new]; rfl, h1.mod hm (fun _ _ h => h)⟩
theorem OwnB.base {w : World} {b b' : Nat} {v : Value} {l : List UInt8} (h : OwnB w b v l) (hb : b' ≤ b) : OwnB w b' v l := by
  obtain ⟨h1, h2⟩ := h
  refine ⟨h1, ?_⟩
  rcases h2 with h2 | ⟨g, cap, cur, rfl, hg, r⟩
  · exact .inl h2
  · exact .inr ⟨g, cap, cur, rfl, Nat.le_trans hb hg, r⟩
theorem rowpost_back {w w1 w2 : World} {l m : List UInt8} {e : Ending} (h : RowPost l w1 e w2) (hl : l = m) (hm : Mod None w w1) : RowPost m w e w2 := by
  subst hl
  obtain ⟨a, c, rfl, ho, hm2⟩ := h
  exact ⟨a, c, rfl, ho.base hm.size, hm.trans hm2⟩
set_option maxRecDepth 100000 in
set_option maxHeartbeats 1600000 in
theorem putint_any (w : World) (a : Option Addr) (c : Nat) (l : List UInt8) (hr : Rd w a l) (hl : l.length ≤ 1000) (n : Int) (hn : 0 ≤ n ∧ n < 9223372036854775808) :
    Calls Try.prog 99 #[.slice a l.length c, .int .i64 n] w (RowPost (l ++ be8 n) w) := by
  have HR := hid hr
  clear hr
  have HB := hid (be8_len n)
  have H0 := hid (show zeros8.length = 8 from rfl)
  go_enter Try.func99, Try.ntmps99
  go_wp2_with fail
  go_loopw [7] (fun i wr => ∃ k : Nat, k ≤ 8 ∧ i = .int .i64 k ∧ Hid (Blk wr w.heap.size 171 ((mix (be8 n) zeros8 k).map B)) ∧ Hid (Mod None w wr)) (fun i _ => 8 - (intOf i).toNat)
  case atStart => exact ⟨0, by omega, rfl, Blk.new w 171 _, (Mod.refl _ _).alloc _⟩
  case round =>
    obtain ⟨k, hk, rfl, hb, hm⟩ := hrel
    by_cases hlt : k < 8
    · have HNX := hid (fun c (hc : (be8 n)[k]? = some c) => mix_set (old := zeros8) hc rfl)
      have hfr := hb.out.free k
      have hcell : wr.cell? ⟨w.heap.size, k, none⟩ ≠ none := by
        rw [hb.out.cell]
        have : k < ((mix (be8 n) zeros8 k).map B).length := by simp [mix, be8_len]; rw [show zeros8.length = 8 from rfl]; omega
        simp [List.getElem?_eq_getElem this]
      obtain ⟨cv, hcell⟩ := Option.ne_none_iff_exists'.1 hcell
      have HST := hid (fun v => (hb.out.set k v))
      have HMS := hid (fun v => hm.out.set (p := ⟨w.heap.size, k, none⟩) (.inr (Nat.le_refl _)) v)
      clear hb hm
      have hu : IntKind.u64.wrap n = n := by simp [IntKind.wrap, IntKind.bits, IntKind.signed]; omega
      rcases (show k = 0 ∨ k = 1 ∨ k = 2 ∨ k = 3 ∨ k = 4 ∨ k = 5 ∨ k = 6 ∨ k = 7 by omega) with rfl | rfl | rfl | rfl | rfl | rfl | rfl | rfl
      · go_wp2_with fail
        go_roundw
        case rel =>
          refine ⟨1, by omega, rfl, ?_, HMS.out _⟩
          have h := HST.out (.int .u8 ((byt (n / 72057594037927936)).toNat : Int))
          rw [HNX.out _ rfl] at h
          rw [byt_nat] at h
          show Blk _ _ _ _
          first | exact h | (rw [show n / 72057594037927936 % 256 = n / 72057594037927936 by omega] at h; exact h)
        case measure => simp [intOf]
      · go_wp2_with fail
        go_roundw
        case rel =>
          refine ⟨2, by omega, rfl, ?_, HMS.out _⟩
          have h := HST.out (.int .u8 ((byt (n / 281474976710656)).toNat : Int))
          rw [HNX.out _ rfl] at h
          rw [byt_nat] at h
          show Blk _ _ _ _
          first | exact h | (rw [show n / 281474976710656 % 256 = n / 281474976710656 by omega] at h; exact h)
        case measure => simp [intOf]
      · go_wp2_with fail
        go_roundw
        case rel =>
          refine ⟨3, by omega, rfl, ?_, HMS.out _⟩
          have h := HST.out (.int .u8 ((byt (n / 1099511627776)).toNat : Int))
          rw [HNX.out _ rfl] at h
          rw [byt_nat] at h
          show Blk _ _ _ _
          first | exact h | (rw [show n / 1099511627776 % 256 = n / 1099511627776 by omega] at h; exact h)
        case measure => simp [intOf]
      · go_wp2_with fail
        go_roundw
        case rel =>
          refine ⟨4, by omega, rfl, ?_, HMS.out _⟩
          have h := HST.out (.int .u8 ((byt (n / 4294967296)).toNat : Int))
          rw [HNX.out _ rfl] at h
          rw [byt_nat] at h
          show Blk _ _ _ _
          first | exact h | (rw [show n / 4294967296 % 256 = n / 4294967296 by omega] at h; exact h)
        case measure => simp [intOf]
      · go_wp2_with fail
        go_roundw
        case rel =>
          refine ⟨5, by omega, rfl, ?_, HMS.out _⟩
          have h := HST.out (.int .u8 ((byt (n / 16777216)).toNat : Int))
          rw [HNX.out _ rfl] at h
          rw [byt_nat] at h
          show Blk _ _ _ _
          first | exact h | (rw [show n / 16777216 % 256 = n / 16777216 by omega] at h; exact h)
        case measure => simp [intOf]
      · go_wp2_with fail
        go_roundw
        case rel =>
          refine ⟨6, by omega, rfl, ?_, HMS.out _⟩
          have h := HST.out (.int .u8 ((byt (n / 65536)).toNat : Int))
          rw [HNX.out _ rfl] at h
          rw [byt_nat] at h
          show Blk _ _ _ _
          first | exact h | (rw [show n / 65536 % 256 = n / 65536 by omega] at h; exact h)
        case measure => simp [intOf]
      · go_wp2_with fail
        go_roundw
        case rel =>
          refine ⟨7, by omega, rfl, ?_, HMS.out _⟩
          have h := HST.out (.int .u8 ((byt (n / 256)).toNat : Int))
          rw [HNX.out _ rfl] at h
          rw [byt_nat] at h
          show Blk _ _ _ _
          first | exact h | (rw [show n / 256 % 256 = n / 256 by omega] at h; exact h)
        case measure => simp [intOf]
      · go_wp2_with fail
        go_roundw
        case rel =>
          refine ⟨8, by omega, rfl, ?_, HMS.out _⟩
          have h := HST.out (.int .u8 ((byt (n)).toNat : Int))
          rw [HNX.out _ rfl] at h
          rw [byt_nat] at h
          show Blk _ _ _ _
          first | exact h | (rw [show n % 256 = n by omega] at h; exact h)
        case measure => simp [intOf]
    · obtain rfl : k = 8 := by omega
      have hx : Rd wr (some ⟨w.heap.size, 0, none⟩) (be8 n) := hb.out.rdv 0 (fun i _ => by rw [Nat.zero_add]; rfl)
      have HP := hid (parts2 wr _ (.slice a l.length c) (.slice (some ⟨w.heap.size, 0, none⟩) 8 8) rfl l (be8 n) ⟨a, c, rfl, hm.out.rd HR.out (fun _ _ h => h), by omega⟩ ⟨_, 8, rfl, hx, by rw [be8_len]; omega⟩ _ rfl)
      have HM := hid hm.out
      clear hb hm hx hlt
      go_wp2_with fail
      refine (concat_any _ _ 2 [l, be8 n] HP.out (by simp) (by simp [be8_len]) (by simp [be8_len]; omega)).mono ?_
      rintro e w2 hp
      have HQ := hid (rowpost_back hp (show [l, be8 n].flatten = l ++ be8 n by simp) (HM.out.alloc _))
      clear hp
      obtain ⟨xa, xc, rfl, hx⟩ := HQ.out
      go_wp2_with fail
      go_ret
      exact ⟨xa, xc, by simp, hx⟩
def frameL (b : List UInt8) : List UInt8 := be8 b.length ++ be8 ((csum b).toNat : Int) ++ b
theorem frameL_len (b : List UInt8) : (frameL b).length = b.length + 16 := by simp [frameL, be8_len]; omega
set_option maxRecDepth 100000 in
set_option maxHeartbeats 1600000 in
theorem frame_any (w : World) (a : Option Addr) (c : Nat) (b : List UInt8) (hr : Rd w a b) (hb : b.length ≤ 1048576) : Calls Try.prog 81 #[.slice a b.length c] w (RowPost (frameL b) w) := by
  have HR := hid hr
  have HF := hid (frameL_len b)
  have HFE := hid (show (be8 (b.length : Int) ++ be8 ((csum b).toNat : Int)) ++ b = frameL b from rfl)
  have hcs := (csum b).isLt
  clear hr
  go_enter Try.func81, Try.ntmps81
  go_wp2_with fail
  refine (putint_any w none 0 [] (.inl rfl) (by simp) b.length (by omega)).mono ?_
  rintro e w1 ⟨a1, c1, rfl, ho1, hm1⟩
  rw [List.nil_append] at ho1
  have H1 := hid ho1
  have HM1 := hid hm1
  clear ho1 hm1
  go_wp2_with fail
  have HP := parts1 w1 _ (.slice a b.length c) rfl b ⟨a, c, rfl, HM1.out.rd HR.out (fun _ _ h => h), by omega⟩ _ rfl
  have hs := sum_any _ 1 [b] _ HP (by simp)
  rw [show [b].flatten = b by simp] at hs
  refine hs.mono ?_
  rintro e w2 ⟨rfl, rfl⟩
  have HM2 := hid (HM1.out.alloc (.cells #[.slice a b.length c] 27))
  have H2 := hid (H1.out.kept (S := None) ((Mod.refl None w1).alloc (.cells #[.slice a b.length c] 27)) (fun _ _ h => h))
  clear HP hs H1
  obtain ⟨ax, cx, e8, hr8⟩ := H2.out.rd
  obtain ⟨rfl, rfl⟩ : a1 = ax ∧ c1 = cx := by cases e8; exact ⟨rfl, rfl⟩
  have HR8 := hid hr8
  clear e8 hr8
  unfold U32
  go_wp2_with fail
  refine (putint_any _ a1 c1 (be8 (b.length : Int)) HR8.out (by rw [be8_len]; omega) ((csum b).toNat : Int) (by omega)).mono ?_
  rintro e w3 ⟨a3, c3, rfl, ho3, hm3⟩
  have H3 := hid ho3
  have HM3 := hid (HM2.out.trans hm3)
  have HBS := hid hm3.size
  have HS3 := hid (HM2.out.size)
  clear ho3 hm3
  have HL := hid (show (be8 (b.length : Int) ++ be8 ((csum b).toNat : Int)).length = 16 by simp [be8_len])
  generalize be8 (b.length : Int) ++ be8 ((csum b).toNat : Int) = h16 at *
  go_wp2_with (at_builtin; go_loud (refine wpList_append_b2 rfl (.tmp 10) (.tmp 11) rfl _ _ h16 rfl H3.out a b _ _ rfl rfl (HM3.out.rd HR.out (fun _ _ h => h)) (by have := HL.out; omega) HBS.out (frameL b) HFE.out.symm _ rfl None w HM3.out HS3.out ?_); intro va vcap w' HO HG)
  go_ret
  exact ⟨va, vcap, rfl, HO.out.base HS3.out, HG.out⟩
end Go.Proofs.Ytdhhpnfdnoaihaa

/-! J4 -/
/- A journal in memory: room, End, Count, sectors. -/
namespace Go.Proofs.Ytdhhpnfdnoaihaa
open Go.RowKit

/-- the journal at j -/
def IsJ (w : World) (j p : Nat) (fr to en ct : Int) : Prop := Blk w j 118 [.pointer (some ⟨p, 0, none⟩), .int .i64 fr, .int .i64 to, .int .i64 en, .int .i64 ct]
section
variable {w : World} {j p : Nat} {fr to en ct : Int}
theorem IsJ.cells (h : IsJ w j p fr to en ct) : w.cell? ⟨j, 0, none⟩ = some (.pointer (some ⟨p, 0, none⟩)) ∧ w.cell? ⟨j, 1, none⟩ = some (.int .i64 fr) ∧ w.cell? ⟨j, 2, none⟩ = some (.int .i64 to) ∧ w.cell? ⟨j, 3, none⟩ = some (.int .i64 en) ∧ w.cell? ⟨j, 4, none⟩ = some (.int .i64 ct) :=
  ⟨Blk.is h rfl, Blk.is h rfl, Blk.is h rfl, Blk.is h rfl, Blk.is h rfl⟩
theorem end_any (h : IsJ w j p fr to en ct) : Calls Try.prog 46 #[.pointer (some ⟨j, 0, none⟩)] w fun e w' => e = .returned (.int .i64 en) ∧ w = w' := by
  obtain ⟨_, _, _, h3, _⟩ := h.cells
  clear h
  go_enter Try.func46, Try.ntmps46
  go_wp2
  go_ret
  exact ⟨rfl, rfl⟩
theorem count_any (h : IsJ w j p fr to en ct) : Calls Try.prog 48 #[.pointer (some ⟨j, 0, none⟩)] w fun e w' => e = .returned (.int .i64 ct) ∧ w = w' := by
  obtain ⟨_, _, _, _, h4⟩ := h.cells
  clear h
  go_enter Try.func48, Try.ntmps48
  go_wp2
  go_ret
  exact ⟨rfl, rfl⟩
set_option maxRecDepth 100000 in
theorem room_any (h : IsJ w j p fr to en ct) (hf : 0 ≤ fr ∧ fr ≤ to ∧ to ≤ 65536) : Calls Try.prog 74 #[.pointer (some ⟨j, 0, none⟩)] w fun e w' => e = .returned (.int .i64 ((to - fr) * 64)) ∧ ∃ n, w' = w.drewN n := by
  obtain ⟨_, h1, h2, _, _⟩ := h.cells
  have e1 : IntKind.i64.wrap (to - fr) = to - fr := wrap_in _ (by omega)
  have e2 : IntKind.i64.wrap ((to - fr) * 64) = (to - fr) * 64 := wrap_in _ (by omega)
  clear h
  go_enter Try.func74, Try.ntmps74
  go_wp2
  go_quiet (fail)
  go_wp2
  go_ret
  exact ⟨rfl, _, rfl⟩
end
def SeqOf (w : World) (j : Nat) (a : Option Addr) (n c : Nat) (at' : Int) (e : Ending) (w' : World) : Prop :=
  e = .returned (.func (.func 101) #[] #[.pointer (some ⟨w.heap.size, 0, none⟩), .pointer (some ⟨w.heap.size + 2, 0, none⟩), .pointer (some ⟨w.heap.size + 1, 0, none⟩)]) ∧
    w' = ((w.alloc (.cells #[.pointer (some ⟨j, 0, none⟩)] 62)).alloc (.cells #[.slice a n c] 27)).alloc (.cells #[.int .i64 at'] 2)
theorem sectors_any (w : World) (j : Nat) (a : Option Addr) (n c : Nat) (at' : Int) : Calls Try.prog 83 #[.pointer (some ⟨j, 0, none⟩), .slice a n c, .int .i64 at'] w (SeqOf w j a n c at') := by
  go_enter Try.func83, Try.ntmps83
  go_wp2
  go_ret
  refine ⟨?_, rfl⟩
  simp
end Go.Proofs.Ytdhhpnfdnoaihaa

/-! J6 -/
/- The sectors of some bytes, one by one. -/
namespace Go.Proofs.Ytdhhpnfdnoaihaa
open Go.RowKit

theorem rd_if {w : World} {a : Option Addr} {l : List UInt8} (h : Rd w a l) {c : Nat} (hc : c ≤ l.length) (hl : l.length ≤ 140737488351232) {vc : Nat} (hcap : l.length ≤ vc) : Rd w (if vc = c then a else a.map (·.add c)) (l.drop c) := by
  obtain ⟨a', k', e, hr, _⟩ := part_drop h hc hl hcap
  injection e with e1
  rw [e1]; exact hr
theorem drop_at (f : List UInt8) (k m : Nat) {L : Nat} (hL : f.length - 64 * k = L) (hm : m ≤ L) (h64 : m ≤ 64) (hd : f.length - 64 * (k + 1) = L - m) : f.drop (64 * (k + 1)) = (f.drop (64 * k)).drop m := by
  rw [List.drop_drop]
  by_cases h : L ≤ 64
  · rw [List.drop_eq_nil_of_le (by omega), List.drop_eq_nil_of_le (by omega)]
  · rw [show 64 * (k + 1) = 64 * k + m by omega]
set_option maxRecDepth 100000 in
set_option maxHeartbeats 1600000 in
theorem iter_in (l bj ba bf j fr at' i0 : Nat) (f : List UInt8) (hfl : f.length ≤ 100000000) (J J' : Nat → Option Addr → Nat → World → Prop) (Jx : World → Prop)
    (hJd : ∀ k a c W n, J k a c W → J k a c (W.drewN n)) (hJ : ∀ k a c W, J k a c W → W.cell? ⟨bf, 0, none⟩ = some (.slice a (f.length - 64 * k) c) ∧ W.frozen? ⟨bf, 0, none⟩ = false ∧ Rd W a (f.drop (64 * k)) ∧ f.length - 64 * k ≤ c ∧ c ≤ maxLen)
    (hY : ∀ k a c W, J k a c W → 64 * k < f.length → YieldAt Fence.wide 3 Try.prog l #[.int .i64 ((i0 : Int) + (k : Int)), .slice a (Nat.min (f.length - 64 * k) 64) c] W fun e W' =>
      (e = .returned (.bool true) ∧ J' k a c W') ∨ (e = .returned (.bool false) ∧ Jx W'))
    (hN : ∀ k a c W, J' k a c W → W.cell? ⟨bf, 0, none⟩ = some (.slice a (f.length - 64 * k) c) ∧ W.frozen? ⟨bf, 0, none⟩ = false ∧ Rd W a (f.drop (64 * k)) ∧
      ∀ a2 c2, Rd W a2 (f.drop (64 * (k + 1))) → (∃ m, a2 = a ∨ a2 = Option.map (fun x => x.add m) a) → f.length - 64 * (k + 1) ≤ c2 → c2 ≤ maxLen → J (k + 1) a2 c2 (W.setCell ⟨bf, 0, none⟩ (.slice a2 (f.length - 64 * (k + 1)) c2)))
    (W : World) (a : Option Addr) (c : Nat) (h0 : J 0 a c W) (hbj : W.cell? ⟨bj, 0, none⟩ = some (.pointer (some ⟨j, 0, none⟩))) (hba : W.cell? ⟨ba, 0, none⟩ = some (.int .i64 (at' : Int))) (hfr : W.cell? ⟨j, 1, none⟩ = some (.int .i64 (fr : Int)))
    (hi0 : i0 = fr + at' / 64) (hb : fr ≤ 65536 ∧ at' ≤ 4194304) :
    CallsIn Fence.wide 4 Try.prog 101 #[.func (.yield l) #[] #[], .pointer (some ⟨bj, 0, none⟩), .pointer (some ⟨ba, 0, none⟩), .pointer (some ⟨bf, 0, none⟩)] W fun e W' =>
      (∃ v, e = .returned v) ∧ ((∃ k a c, f.length ≤ 64 * k ∧ J k a c W') ∨ Jx W') := by
  have HJ := hid hJ
  have HY := hid hY
  have HN := hid hN
  have H0 := hid h0
  clear hJ hY hN h0
  have HI0 := hid hi0
  have hi1 : i0 ≤ 1000000 := by omega
  clear hi0
  refine callsIn_of_wp Try.func101 rfl trivial (wpIn_wide.2 ?_) rfl
  simp only [Try.ntmps101, List.size_toArray, List.length_cons, List.length_nil, Nat.reduceAdd, Nat.reduceSub, Array.replicate_succ, Array.replicate_zero, List.push_toArray, List.append_toArray, List.nil_append, List.cons_append]
  go_wp2
  go_quiet (fail)
  go_wp2
  go_loopw [5] (fun i wr => ∃ (k : Nat) (a : Option Addr) (c : Nat), k ≤ f.length ∧ i = .int .i64 ((i0 : Int) + (k : Int)) ∧ Hid (J k a c wr)) (fun i _ => i0 + f.length + 1 - (intOf i).toNat)
  case atStart => exact ⟨0, a, c, by omega, by rw [HI0.out]; simp, hJd _ _ _ _ _ H0.out⟩
  case round =>
    obtain ⟨k, a1, c1, hk, rfl, hj⟩ := hrel
    obtain ⟨hcell, hfz, hrd, hcap, hcm⟩ := HJ.out k a1 c1 wr hj.out
    by_cases hlt : 64 * k < f.length
    · have hpos : (0 : Int) < ((f.length - 64 * k : Nat) : Int) := by omega
      have HYK := hid (HY.out k a1 c1 wr hj.out hlt)
      have HD := hid (show f.length - 64 * (k + 1) = f.length - 64 * k - Nat.min (f.length - 64 * k) 64 by
        rcases Nat.le_total (f.length - 64 * k) 64 with h | h
        · rw [show Nat.min (f.length - 64 * k) 64 = f.length - 64 * k from Nat.min_eq_left h]; omega
        · rw [show Nat.min (f.length - 64 * k) 64 = 64 from Nat.min_eq_right h]; omega)
      have hm : imin ((f.length - 64 * k : Nat) : Int) 64 = ((Nat.min (f.length - 64 * k) 64 : Nat) : Int) := by
        unfold imin
        have : Nat.min (f.length - 64 * k) 64 = min (f.length - 64 * k) 64 := rfl
        omega
      have hm1 : Nat.min (f.length - 64 * k) 64 ≤ f.length - 64 * k := Nat.min_le_left _ _
      have HM64 := hid (show Nat.min (f.length - 64 * k) 64 ≤ 64 from Nat.min_le_right _ _)
      generalize Nat.min (f.length - 64 * k) 64 = m at *
      generalize hL : f.length - 64 * k = L at *
      have hmc : (m : Int) ≤ (c1 : Int) := by omega
      have hmL : (m : Int) ≤ (L : Int) := by omega
      have HDR := hid (drop_at f k m hL hm1 HM64.out HD.out)
      clear hm1
      go_upto_region 4 with (fail)
      refine (wpIn_wide (n := 4)).1 ?_
      obtain ⟨fn, tmps, assign, body, hy, hR⟩ := HYK.out
      gi_wp2
      refine hR.mono ?_
      rintro e W' (⟨rfl, hj'⟩ | ⟨rfl, hjx⟩)
      · obtain ⟨hc2, hz2, hr2, hn2⟩ := HN.out k a1 c1 W' hj'
        have HN2 := hid hn2
        have HR2 := hid hr2
        rw [hL] at hc2
        have hL2 : L ≤ c1 := hcap
        have HL := hid hL
        clear hn2 hr2 hcell hfz hrd hy hR hj' hL
        gi_wp2
        go_wp2
        refine ⟨⟨k + 1, (if c1 = m then a1 else Option.map (fun x => x.add m) a1), c1 - m, by omega, ?_, ?_⟩, ?_⟩
        · congr 1
        · show J _ _ _ _
          have h := HN2.out (if c1 = m then a1 else Option.map (fun x => x.add m) a1) (c1 - m) ?_ ⟨m, by by_cases hcm : c1 = m <;> simp [hcm]⟩ (by rw [HD.out]; omega) (by omega)
          · rw [HD.out] at h; exact h
          · have hl : (f.drop (64 * k)).length = L := by rw [List.length_drop, HL.out]
            rw [HDR.out]
            exact rd_if HR2.out (by rw [hl]; omega) (by rw [List.length_drop]; omega) (by rw [hl]; omega)
        · simp [intOf]; omega
      · have HX := hid hjx
        clear hcell hfz hrd hy hR hjx
        gi_wp2
        go_wp2
        refine bodyPost_ret (results_none (by kernel_rfl) _ _ _) rfl ?_
        exact ⟨⟨_, rfl⟩, .inr HX.out⟩
    · have hz0 : f.length - 64 * k = 0 := by omega
      rw [hz0] at hcell
      have hge : f.length ≤ 64 * k := by omega
      have HG := hid hge
      clear hz0 hge hlt hrd hcap hcm
      go_wp2
      go_end0
      exact ⟨⟨_, rfl⟩, .inl ⟨k, a1, c1, HG.out, hj.out⟩⟩
end Go.Proofs.Ytdhhpnfdnoaihaa

/-! R1 -/
/- octet.Read and its small methods. -/
namespace Go.Proofs.Ytdhhpnfdnoaihaa
open Go.RowKit

theorem own_of_row {w w' : World} {v : Value} {l : List UInt8} (h : w'.ownsRow 0 5 1 v l.length (l.map B)) (hn : ∀ g, v.ownBlock = some g → w.heap.size ≤ g) : OwnB w' w.heap.size v l := by
  obtain ⟨h1, h2⟩ := h
  refine ⟨h1, ?_⟩
  rcases h2 with h2 | ⟨g, cap, cur, rfl, _, r⟩
  · exact .inl h2
  · exact .inr ⟨g, cap, cur, rfl, hn g rfl, r⟩
set_option maxRecDepth 100000 in
set_option maxHeartbeats 800000 in
theorem clone80_any (w : World) (a : Option Addr) (c : Nat) (l : List UInt8) (hr : Rd w a l) (hl : l.length ≤ 100000000) : Calls Try.prog 80 #[.slice a l.length c] w (RowPost l w) := by
  obtain ⟨i, hi, hz, hs, hb⟩ := info_parts l_info5
  cases a with
  | none =>
    have hx : l = [] := by
      rcases hr with h | ⟨_, _, h, _⟩
      · simpa using h
      · cases h
    subst hx
    have hcmp := Lib.run_eql_slice_nil (P := Try.prog) w 27 5 none 0 c 0 0 und27
    clear hl hr
    go_enter Try.func80, Try.ntmps80
    go_wp2
    go_ret
    exact ⟨none, 0, rfl, OwnB.nil _ _, Mod.refl _ _⟩
  | some x =>
    have HR := hid hr
    clear hr
    have hcmp := Lib.run_eql_slice_nil (P := Try.prog) w 27 5 (some x) l.length c 0 0 und27
    go_enter Try.func80, Try.ntmps80
    go_wp2_with (at_builtin; go_loud (refine wpList_plain rfl (fun K hK => wp_append_R (.tmp 5) (.tmp 6) 27 rfl 5 i (.int .u8 0) 1 1 und27 hi hz hs hb rfl (by decide) _ 0 [] rfl (owns_empty w 5 1) _ l.length c (l.map B) rfl (by simp) (((Mod.refl None w).alloc _).rdv HR.out (fun _ _ h => h)) (B_one l) (by unfold maxLen; omega) (by omega) (fun va vc w' h2 h3 h4 => hK _ _ ?_))); have HP := hid (clone_end h2.out h3.out h4.out); clear h2 h3 h4)
    go_ret
    obtain ⟨a', c', he, hown, hm, hn⟩ := HP.out
    exact ⟨a', c', he, own_of_row hown hn, hm⟩
/-- a reader -/
def Rdr (w : World) (r : Nat) (l : List UInt8) (at' : Int) (bad : Bool) : Prop := ∃ a c, Blk w r 150 [.slice a l.length c, .int .i64 at', .bool bad] ∧ OwnB w 0 (.slice a l.length c) l
theorem Rdr.far {w : World} {r : Nat} {l : List UInt8} {v : Value} {cs : List Value} (ho : OwnB w 0 v l) (hb : Blk w r 150 cs) : ∀ g, v.ownBlock = some g → ¬ g = r :=
  fun g hg => OwnR.far (S := fun _ => True) ⟨ho, fun _ _ => trivial⟩ hb (by decide) g hg
theorem Rdr.keep {w w' : World} {r : Nat} {l : List UInt8} {at' : Int} {bad : Bool} {T : Nat → Prop} (h : Rdr w r l at' bad) (hm : Mod T w w') (hT : ∀ k, ¬ T k) : Rdr w' r l at' bad := by
  obtain ⟨a, c, hb, ho⟩ := h
  exact ⟨a, c, hm.blk hb (hT _), ho.kept hm (fun k _ => hT k)⟩
def ReadNew (l : List UInt8) (w : World) (e : Ending) (w' : World) : Prop := ∃ r, e = .returned (.pointer (some ⟨r, 0, none⟩)) ∧ Rdr w' r l 0 false ∧ w.heap.size ≤ r ∧ Mod None w w'
set_option maxRecDepth 100000 in
theorem readnew_any (w : World) (a : Option Addr) (c : Nat) (l : List UInt8) (hr : Rd w a l) (hl : l.length ≤ 100000000) : Calls Try.prog 76 #[.slice a l.length c] w (ReadNew l w) := by
  go_enter Try.func76, Try.ntmps76
  go_wp2_with fail
  refine (clone80_any w a c l hr hl).mono ?_
  rintro e w1 ⟨a1, c1, rfl, ho, hm⟩
  have HO := hid ho
  have HM := hid hm
  clear ho hm
  go_wp2_with fail
  go_ret
  have hm2 : Mod None w1 (w1.alloc (.cells #[.slice a1 l.length c1, .int .i64 0, .bool false] 150)) := (Mod.refl _ _).alloc _
  exact ⟨_, rfl, ⟨a1, c1, Blk.new w1 150 _, (HO.out.kept hm2 (fun _ _ h => h)).base (Nat.zero_le _)⟩, HM.out.size, HM.out.trans hm2⟩
section
variable {w : World} {r : Nat} {l : List UInt8} {at' : Int} {bad : Bool}
theorem rbad_any (h : Rdr w r l at' bad) : Calls Try.prog 78 #[.pointer (some ⟨r, 0, none⟩)] w fun e w' => e = .returned (.bool bad) ∧ w = w' := by
  obtain ⟨a, c, hb, _⟩ := h
  have h2 : w.cell? ⟨r, 2, none⟩ = some (.bool bad) := hb.is rfl
  clear hb
  go_enter Try.func78, Try.ntmps78
  go_wp2
  go_ret
  exact ⟨rfl, rfl⟩
set_option maxRecDepth 100000 in
theorem rleft_any (h : Rdr w r l at' false) (hat : 0 ≤ at' ∧ at' ≤ l.length) (hl : l.length ≤ 100000000) : Calls Try.prog 79 #[.pointer (some ⟨r, 0, none⟩)] w fun e w' => e = .returned (.int .i64 ((l.length : Int) - at')) ∧ ∃ n, w' = w.drewN n := by
  obtain ⟨a, c, hb, _⟩ := h
  have h0 : w.cell? ⟨r, 0, none⟩ = some (.slice a l.length c) := hb.is rfl
  have h1 : w.cell? ⟨r, 1, none⟩ = some (.int .i64 at') := hb.is rfl
  have h2 : w.cell? ⟨r, 2, none⟩ = some (.bool false) := hb.is rfl
  have hw : IntKind.i64.wrap ((l.length : Int) - at') = (l.length : Int) - at' := wrap_in _ (by omega)
  clear hb
  generalize l.length = n at *
  go_enter Try.func79, Try.ntmps79
  go_wp2
  go_quiet (fail)
  go_wp2
  go_ret
  exact ⟨rfl, _, rfl⟩
end
def TakePost (r : Nat) (l : List UInt8) (k : Nat) (bad : Bool) (w : World) (e : Ending) (w' : World) : Prop :=
  ∃ a c, Mod (fun x => x = r) w w' ∧ ((bad = false ∧ k + 8 ≤ l.length ∧ e = .returned (.slice a 8 c) ∧ Rd w' a ((l.drop k).take 8) ∧ Rdr w' r l ((k + 8 : Nat) : Int) false) ∨ (¬ (bad = false ∧ k + 8 ≤ l.length) ∧ e = .returned (.slice none 0 0) ∧ Rdr w' r l k true))
set_option maxRecDepth 100000 in
set_option maxHeartbeats 1600000 in
theorem take_any (w : World) (r : Nat) (l : List UInt8) (k : Nat) (bad : Bool) (h : Rdr w r l k bad) (hk : k ≤ l.length) (hl : l.length ≤ 100000000) : Calls Try.prog 98 #[.pointer (some ⟨r, 0, none⟩), .int .i64 8] w (TakePost r l k bad w) := by
  obtain ⟨a, c, hb, ho⟩ := h
  have h0 : w.cell? ⟨r, 0, none⟩ = some (.slice a l.length c) := hb.is rfl
  have h1 : w.cell? ⟨r, 1, none⟩ = some (.int .i64 (k : Int)) := hb.is rfl
  have h2 : w.cell? ⟨r, 2, none⟩ = some (.bool bad) := hb.is rfl
  have f1 := hb.free 1
  have f2 := hb.free 2
  have hcap := ho.cap
  have HB := hid hb
  have HO := hid ho
  have hw : IntKind.i64.wrap ((l.length : Int) - (k : Int)) = (l.length : Int) - (k : Int) := wrap_in _ (by omega)
  have hw2 : IntKind.i64.wrap ((k : Int) + 8) = (k : Int) + 8 := wrap_in _ (by omega)
  clear hb ho
  have HBAD := hid (fun (W : World) (hm : Mod (fun x => x = r) w W) (hbl : Blk W r 150 [.slice a l.length c, .int .i64 (k : Int), .bool true]) => (⟨a, c, hbl, HO.out.kept hm (fun g hg => Rdr.far HO.out HB.out g hg)⟩ : Rdr W r l k true))
  cases bad
  · by_cases hfit : k + 8 ≤ l.length
    · have hf1 : ¬ ((l.length : Int) - (k : Int) < 8) := by omega
      have hk1 : (k : Int) + 8 ≤ (c : Int) := by omega
      have HFIT := hid hfit
      generalize hn : l.length = n at *
      go_enter Try.func98, Try.ntmps98
      go_wp2
      go_quiet (fail)
      go_wp2
      go_quiet (fail)
      go_wp2
      go_ret
      have key : ∀ m : Nat, TakePost r l k false w (.returned (.slice (Option.map (fun x => x.add k) a) (k + 8 - k) (c - k))) ((w.drewN m).setCell ⟨r, 1, none⟩ (.int .i64 ((k : Int) + 8))) := fun m => by
        have hm : Mod (fun x => x = r) w ((w.drewN m).setCell ⟨r, 1, none⟩ (.int .i64 ((k : Int) + 8))) := Mod.set (S := fun x => x = r) ((mod_drewN w m).mono (fun _ _ h => h.elim)) (.inl rfl) _
        have hown := HO.out.kept hm (fun g hg => Rdr.far HO.out HB.out g hg)
        obtain ⟨a', c', e, hrd⟩ := hown.rd
        obtain ⟨rfl, rfl⟩ : a = a' ∧ c = c' := by cases e; exact ⟨rfl, rfl⟩
        refine ⟨Option.map (fun x => x.add k) a, c - k, hm, .inl ⟨rfl, by rw [hn]; exact HFIT.out, by rw [show k + 8 - k = 8 by omega], ?_, ⟨a, c, ?_, ?_⟩⟩⟩
        · have h := rd_if hrd (c := k) (by omega) (by omega) (vc := c) (by omega)
          rw [if_neg (by omega)] at h
          exact rd_take h 8
        · have h : Blk (w.drewN m) r 150 _ := HB.out
          rw [hn, show (((k + 8 : Nat)) : Int) = (k : Int) + 8 by omega]
          exact h.set 1 _
        · rw [hn]; exact hown
      exact key _
    · have hf1 : (l.length : Int) - (k : Int) < 8 := by omega
      generalize hn : l.length = n at *
      go_enter Try.func98, Try.ntmps98
      go_wp2
      go_quiet (fail)
      go_wp2
      go_ret
      rename_i nq
      have hm : Mod (fun x => x = r) w ((w.drewN nq).setCell ⟨r, 2, none⟩ (.bool true)) := Mod.set (S := fun x => x = r) ((mod_drewN w nq).mono (fun _ _ h => h.elim)) (.inl rfl) _
      have hbd := HBAD.out _ hm (by have h : Blk (w.drewN nq) r 150 _ := HB.out; exact h.set 2 _)
      rw [← hn] at hbd
      exact ⟨none, 0, hm, .inr ⟨fun h => by rw [hn] at h; exact hfit h.2, rfl, hbd⟩⟩
  · go_enter Try.func98, Try.ntmps98
    go_wp2
    go_quiet (fail)
    go_wp2
    go_ret
    rename_i nq
    have hm : Mod (fun x => x = r) w ((w.drewN nq).setCell ⟨r, 2, none⟩ (.bool true)) := Mod.set (S := fun x => x = r) ((mod_drewN w nq).mono (fun _ _ h => h.elim)) (.inl rfl) _
    exact ⟨none, 0, hm, .inr ⟨fun h => by simp at h, rfl, HBAD.out _ hm (by have h : Blk (w.drewN nq) r 150 _ := HB.out; exact h.set 2 _)⟩⟩
end Go.Proofs.Ytdhhpnfdnoaihaa

/-! R2 -/
/- octet.Reader's Int. -/
namespace Go.Proofs.Ytdhhpnfdnoaihaa
open Go.RowKit

def beN (l : List UInt8) : Nat := l.foldl (fun n c => n * 256 + c.toNat) 0
theorem beN_snoc (l : List UInt8) (c : UInt8) : beN (l ++ [c]) = beN l * 256 + c.toNat := by simp [beN]
theorem be_fold : ∀ (l : List UInt8) (n : Nat), l.foldl (fun n c => n * 256 + c.toNat) n < (n + 1) * 256 ^ l.length
  | [], n => by simp
  | c :: l, n => by
    have h := be_fold l (n * 256 + c.toNat)
    have hc := c.toNat_lt
    rw [List.foldl_cons, List.length_cons, Nat.pow_succ]
    refine Nat.lt_of_lt_of_le h ?_
    rw [Nat.mul_comm (256 ^ l.length) 256, ← Nat.mul_assoc]
    exact Nat.mul_le_mul_right _ (by omega)
theorem beN_lt (l : List UInt8) : beN l < 256 ^ l.length := by
  have := be_fold l 0
  simpa [beN] using this
def i64 (n : Nat) : Int := IntKind.i64.wrap (n : Int)
theorem i64_eq (n : Nat) : i64 n = wrap64 (n : Int) := by
  unfold i64 wrap64
  rw [IntKind.wrap_i64]
theorem or_u64 (m : Nat) (c : UInt8) (hm : m * 256 + 256 ≤ 18446744073709551616) : bits .or .u64 ((m : Int) * 256) (c.toNat : Int) = ((m * 256 + c.toNat : Nat) : Int) := by
  have hc := c.toNat_lt
  show IntKind.u64.wrap ((BitVec.ofInt 64 ((m : Int) * 256) ||| BitVec.ofInt 64 (c.toNat : Int)).toNat : Int) = _
  have e1 : BitVec.ofInt 64 ((m : Int) * 256) = BitVec.ofNat 64 (m * 256) := by
    rw [show (m : Int) * 256 = ((m * 256 : Nat) : Int) by omega, BitVec.ofInt_natCast]
  have e2 : BitVec.ofInt 64 (c.toNat : Int) = BitVec.ofNat 64 c.toNat := BitVec.ofInt_natCast _ _
  rw [e1, e2, BitVec.toNat_or, BitVec.toNat_ofNat, BitVec.toNat_ofNat, Nat.mod_eq_of_lt (by omega), Nat.mod_eq_of_lt (by omega)]
  have e3 : m * 256 ||| c.toNat = m * 256 + c.toNat := by
    rw [show m * 256 = 2 ^ 8 * m by omega, Nat.two_pow_add_eq_or_of_lt (by omega) m]
  rw [e3]
  simp [IntKind.wrap, IntKind.bits, IntKind.signed]
  omega
def IntPost (r : Nat) (l : List UInt8) (k : Nat) (bad : Bool) (w : World) (e : Ending) (w' : World) : Prop :=
  Mod (fun x => x = r) w w' ∧ ((bad = false ∧ k + 8 ≤ l.length ∧ e = .returned (.int .i64 (i64 (beN ((l.drop k).take 8)))) ∧ Rdr w' r l ((k + 8 : Nat) : Int) false) ∨ (¬ (bad = false ∧ k + 8 ≤ l.length) ∧ e = .returned (.int .i64 0) ∧ Rdr w' r l k true))
set_option maxRecDepth 100000 in
set_option maxHeartbeats 1600000 in
theorem int_any (w : World) (r : Nat) (l : List UInt8) (k : Nat) (bad : Bool) (h : Rdr w r l k bad) (hk : k ≤ l.length) (hl : l.length ≤ 100000000) : Calls Try.prog 77 #[.pointer (some ⟨r, 0, none⟩)] w (IntPost r l k bad w) := by
  have HT := hid (take_any w r l k bad h hk hl)
  clear h
  go_enter Try.func77, Try.ntmps77
  go_wp2_with fail
  refine HT.out.mono ?_
  rintro e w1 ⟨a, c, hm, ⟨hb, hfit, rfl, hrd, hR⟩ | ⟨hn, rfl, hR⟩⟩
  · have hlen : ((l.drop k).take 8).length = 8 := by rw [List.length_take, List.length_drop]; omega
    have HRD := hid hrd
    have HM := hid hm
    have HR := hid hR
    have HF := hid (And.intro hb hfit)
    have HLEN := hid hlen
    clear hm hrd hR hb hfit HT hk hl
    generalize hte : (l.drop k).take 8 = t at *
    have HTE := hid hte
    clear hte
    go_wp2_with fail
    go_loopw [3, 9] (fun x i wr => ∃ q : Nat, q ≤ 8 ∧ i = .int .i64 q ∧ x = .int .u64 ((beN (t.take q) : Nat) : Int) ∧ wr = w1) (fun _ i _ => 8 - (intOf i).toNat)
    case atStart => exact ⟨0, by omega, rfl, rfl, rfl⟩
    case round =>
      obtain ⟨q, hq, rfl, rfl, rfl⟩ := hrel
      by_cases hlt : q < 8
      · have hlt' : (q : Int) < 8 := by omega
        obtain ⟨d, hd⟩ : ∃ d, t[q]? = some d := ⟨_, List.getElem?_eq_getElem (by omega)⟩
        obtain ⟨b, o, rfl, hcell⟩ : ∃ b o, a = some ⟨b, o, none⟩ ∧ wr.cell? ⟨b, o + q, none⟩ = some (.int .u8 (d.toNat : Int)) := by
          rcases HRD.out with h | ⟨b, o, rfl, hc⟩
          · have : t = [] := by simpa using h
            rw [this] at hlen; simp at hlen
          · refine ⟨b, o, rfl, ?_⟩
            rw [hc q (by simp [hlen]; exact hlt), List.getElem?_map, hd]; rfl
        have hsn : t.take (q + 1) = t.take q ++ [d] := by
          rw [List.take_succ_eq_append_getElem (by omega), (List.getElem?_eq_some_iff.1 hd).2]
        have HSN := hid (show beN (t.take (q + 1)) = beN (t.take q) * 256 + d.toNat by rw [hsn, beN_snoc])
        have hbl := beN_lt (t.take q)
        rw [List.length_take, hlen, Nat.min_eq_left (by omega)] at hbl
        have hb2 : beN (t.take q) < 72057594037927936 := Nat.lt_of_lt_of_le hbl (by
          have : (256 : Nat) ^ q ≤ 256 ^ 7 := Nat.pow_le_pow_right (by omega) (by omega)
          exact Nat.le_trans this (by decide))
        clear hsn hbl hd
        generalize beN (t.take q) = m at *
        have hor := or_u64 m d (by omega)
        have hw1 : IntKind.u64.wrap ((m : Int) * 256) = (m : Int) * 256 := by simp [IntKind.wrap, IntKind.bits, IntKind.signed]; omega
        have hwd : IntKind.u64.wrap (d.toNat : Int) = (d.toNat : Int) := by have := d.toNat_lt; simp [IntKind.wrap, IntKind.bits, IntKind.signed]; omega
        go_wp2_with fail
        go_roundw
        case rel => exact ⟨q + 1, by omega, by go_num, by rw [HSN.out]; simp, trivial⟩
        case measure => simp [intOf]; omega
      · obtain rfl : q = 8 := by omega
        have HT8 := hid (show t.take 8 = t from List.take_of_length_le (by omega))
        rw [HT8.out]
        have HI := hid (i64_eq (beN t))
        generalize hbm : beN t = m at *
        have HBM := hid hbm
        clear hbm
        go_wp2_with fail
        go_ret
        exact ⟨HM.out, .inl ⟨HF.out.1, HF.out.2, by rw [HTE.out, HBM.out, HI.out]; rfl, HR.out⟩⟩
  · have HM := hid hm
    have HR := hid hR
    have HNF := hid hn
    clear hm hR hn HT
    go_wp2_with fail
    refine wp_loop_rounds 1 ?_
    rw [rounds_succ]
    go_wp2_with fail
    go_ret
    exact ⟨HM.out, .inr ⟨HNF.out, rfl, HR.out⟩⟩
end Go.Proofs.Ytdhhpnfdnoaihaa

/-! J5 -/
/- A journal's Append: what is refused. -/
namespace Go.Proofs.Ytdhhpnfdnoaihaa
open Go.RowKit

theorem res47 (tmps : Array Value) (w : World) (rb : Nat) (v : Int) (h4 : tmps.getD 4 undef = .pointer (some ⟨rb, 0, none⟩)) (hc : w.cell? ⟨rb, 0, none⟩ = some (.int .i64 v)) : (results Try.f47 tmps).run Try.prog w = .ok (.int .i64 v) w := by
  have h4' : tmps[4]?.getD undef = .pointer (some ⟨rb, 0, none⟩) := by simpa using h4
  simp [results, h4', hc, go_sem]
theorem ret47 {R : Ending → World → Prop} (tmps : Array Value) (w : World) (rb : Nat) (v : Int) (h4 : tmps.getD 4 undef = .pointer (some ⟨rb, 0, none⟩)) (hc : w.cell? ⟨rb, 0, none⟩ = some (.int .i64 v)) (h : R (.returned (.int .i64 v)) w) :
    bodyPostM Fence.wide 5 Try.prog Try.f47 R Exit.ret { tmps := tmps, defers := [] } w := ⟨_, res47 tmps w rb v h4 hc, h⟩
theorem ret47d {R : Ending → World → Prop} (tmps : Array Value) (w : World) (rb D : Nat) (v : Int) (hD : w.heap[D]? = some (.deferred (some []))) (h4 : tmps.getD 4 undef = .pointer (some ⟨rb, 0, none⟩)) (hc : w.cell? ⟨rb, 0, none⟩ = some (.int .i64 v))
    (h : R (.returned (.int .i64 v)) (w.putObj D (.deferred none))) :
    bodyPostM Fence.wide 5 Try.prog Try.f47 R Exit.ret { tmps := tmps, defers := [{ target := .collected D, args := #[] }] } w := by
  refine ⟨by simp, .inl ⟨_, _, rfl, run_takeDeferred hD, _, res47 tmps _ rb v h4 ?_, h⟩⟩
  refine cell_kept hc (grownBy_putObj' _ D (.deferred none)) (fun r e => by cases e; exact ⟨_, hD, rfl⟩)
set_option maxRecDepth 100000 in
set_option maxHeartbeats 1600000 in
theorem append_long (w : World) (j : Nat) (a : Option Addr) (c : Nat) (n : Nat) (hl : 1048576 < n) : Calls Try.prog 47 #[.pointer (some ⟨j, 0, none⟩), .slice a n c] w fun e w' => e = .returned (.int .i64 3) ∧ Mod None w w' := by
  have hlen : (1048576 : Int) < (n : Int) := by omega
  refine (callsIn_wide (n := 5)).1 (callsIn_of_wp_marks Try.func47 rfl trivial (wpIn_wide.2 ?_))
  simp only [Try.ntmps47, List.size_toArray, List.length_cons, List.length_nil, Nat.reduceAdd, Nat.reduceSub, Array.replicate_succ, Array.replicate_zero, List.push_toArray, List.append_toArray, List.nil_append, List.cons_append]
  go_wp2_with fail
  refine ret47 _ _ (w.heap.size + 1) 3 rfl ?_ ⟨rfl, ((Mod.refl _ _).alloc _).alloc _⟩
  simp
theorem room_quiet {w : World} {j p : Nat} {fr to en ct : Int} (h : IsJ w j p fr to en ct) (hf : 0 ≤ fr ∧ fr ≤ to ∧ to ≤ 65536) (n : Nat) : Calls Try.prog 74 #[.pointer (some ⟨j, 0, none⟩)] (w.drewN n) fun e w'' => e = .returned (.int .i64 ((to - fr) * 64)) ∧ ∃ m, w'' = w.drewN m :=
  (room_any (w := w.drewN n) h hf).mono fun _ _ ⟨he, m, hm⟩ => ⟨he, n + m, by rw [hm]; simp [World.drewN, Nat.add_assoc]⟩
set_option maxRecDepth 100000 in
set_option maxHeartbeats 1600000 in
theorem append_full (w : World) (j p : Nat) (fr to en ct : Int) (hj : IsJ w j p fr to en ct) (a : Option Addr) (c n : Nat) (hf : 0 ≤ fr ∧ fr ≤ to ∧ to ≤ 65536) (he : 0 ≤ en ∧ en ≤ (to - fr) * 64)
    (hl : n ≤ 1048576) (hr : (to - fr) * 64 - en < (n : Int) + 16) : Calls Try.prog 47 #[.pointer (some ⟨j, 0, none⟩), .slice a n c] w fun e w' => e = .returned (.int .i64 51) ∧ Mod None w w' := by
  have hlen : ¬ (1048576 : Int) < (n : Int) := by omega
  have hlt : (to - fr) * 64 - en < (n : Int) + 16 := hr
  have hw1 : IntKind.i64.wrap ((to - fr) * 64 - en) = (to - fr) * 64 - en := wrap_in _ (by omega)
  have hm0 : Mod None w ((w.alloc (.cells #[.pointer (some ⟨j, 0, none⟩)] 62)).alloc (.cells #[.int .i64 0] 40)) := ((Mod.refl _ _).alloc _).alloc _
  obtain ⟨W, hW⟩ : ∃ W, W = (w.alloc (.cells #[.pointer (some ⟨j, 0, none⟩)] 62)).alloc (.cells #[.int .i64 0] 40) := ⟨_, rfl⟩
  rw [← hW] at hm0
  have hjw : IsJ W j p fr to en ct := hm0.blk hj (fun h => h)
  obtain ⟨_, _, _, h3, _⟩ := hjw.cells
  have hbx : Blk W w.heap.size 62 [.pointer (some ⟨j, 0, none⟩)] := by rw [hW]; exact (Blk.new w 62 _).alloc _
  have hrb : Blk W (w.heap.size + 1) 40 [.int .i64 0] := by
    have := Blk.new (w.alloc (.cells #[.pointer (some ⟨j, 0, none⟩)] 62)) 40 #[.int .i64 0]
    simp only [World.size_alloc] at this
    rw [hW]; exact this
  have hbx0 : W.cell? ⟨w.heap.size, 0, none⟩ = some (.pointer (some ⟨j, 0, none⟩)) := hbx.is rfl
  have hrb0 : W.cell? ⟨w.heap.size + 1, 0, none⟩ = some (.int .i64 0) := hrb.is rfl
  have hfz := hrb.free 0
  have HM := hid hm0
  have HRB := hid hrb
  have HQ := hid (fun m => room_quiet hjw hf m)
  generalize hR : (to - fr) * 64 = R at *
  clear hR hf he hbx hrb hjw hj hm0 hr hl
  refine (callsIn_wide (n := 5)).1 (callsIn_of_wp_marks Try.func47 rfl trivial (wpIn_wide.2 ?_))
  simp only [Try.ntmps47, List.size_toArray, List.length_cons, List.length_nil, Nat.reduceAdd, Nat.reduceSub, Array.replicate_succ, Array.replicate_zero, List.push_toArray, List.append_toArray, List.nil_append, List.cons_append]
  go_wp2_with fail
  rw [← hW]
  clear hW
  go_quiet (first | (go_at_call 74; exact HQ.out _))
  go_wp2_with fail
  refine ret47 _ _ (w.heap.size + 1) 51 rfl ?_ ⟨rfl, ?_⟩
  · have h : Blk (W.drewN nq) (w.heap.size + 1) 40 [.int .i64 0] := HRB.out
    exact (h.set 0 (.int .i64 51)).is rfl
  · exact (HM.out.trans (mod_drewN W nq)).set (.inr (Nat.le_succ _)) _
end Go.Proofs.Ytdhhpnfdnoaihaa

/-! J8 -/
/- A loop over a journal's sectors. -/
namespace Go.Proofs.Ytdhhpnfdnoaihaa
open Go.RowKit

def bodyQ (B : Nat) (I' Ix : World → Prop) (W : World) : Exit → Act → World → Prop
  | .normal, _, W' => (∀ x, B ≤ x → x ≤ B + 1 → W'.heap[x]? = W.heap[x]?) ∧ I' W'
  | .ret, _, W' => (∀ x, B ≤ x → x ≤ B + 1 → W'.heap[x]? = W.heap[x]?) ∧ Ix W'
  | _, _, _ => False
set_option maxHeartbeats 1000000 in
theorem wp_sectors {assign body : Code} {Q : Exit → Act → World → Prop} {act : Act} {W4 : World} {g : Operand} {bj ba bf j fr at' i0 : Nat} {f : List UInt8} (hfl : f.length ≤ 100000000)
    (hg : act.eval g = .func (.func 101) #[] #[.pointer (some ⟨bj, 0, none⟩), .pointer (some ⟨ba, 0, none⟩), .pointer (some ⟨bf, 0, none⟩)])
    (I I' : Nat → Option Addr → Nat → World → Prop) (Ix : World → Prop)
    (hIp : ∀ k a c W l o o', W4.heap.size ≤ l → l ≤ W4.heap.size + 1 → W.heap[l]? = some o → I k a c W → I k a c (W.putObj l o'))
    (hIp' : ∀ k a c W l o o', W4.heap.size ≤ l → l ≤ W4.heap.size + 1 → W.heap[l]? = some o → I' k a c W → I' k a c (W.putObj l o'))
    (hIpx : ∀ W l o o', W4.heap.size ≤ l → l ≤ W4.heap.size + 1 → W.heap[l]? = some o → Ix W → Ix (W.putObj l o'))
    (a0 : Option Addr) (c0 : Nat) (h0 : ∀ o1 o2, I 0 a0 c0 ((W4.alloc o1).alloc o2)) (hId : ∀ k a c W n, I k a c W → I k a c (W.drewN n))
    (hI : ∀ k a c W, I k a c W → W.cell? ⟨bf, 0, none⟩ = some (.slice a (f.length - 64 * k) c) ∧ W.frozen? ⟨bf, 0, none⟩ = false ∧ Rd W a (f.drop (64 * k)) ∧ f.length - 64 * k ≤ c ∧ c ≤ maxLen)
    (hN : ∀ k a c W, I' k a c W → W.cell? ⟨bf, 0, none⟩ = some (.slice a (f.length - 64 * k) c) ∧ W.frozen? ⟨bf, 0, none⟩ = false ∧ Rd W a (f.drop (64 * k)) ∧
      ∀ a2 c2, Rd W a2 (f.drop (64 * (k + 1))) → (∃ m, a2 = a ∨ a2 = Option.map (fun x => x.add m) a) → f.length - 64 * (k + 1) ≤ c2 → c2 ≤ maxLen → I (k + 1) a2 c2 (W.setCell ⟨bf, 0, none⟩ (.slice a2 (f.length - 64 * (k + 1)) c2)))
    (hbf : bf < W4.heap.size) (hbj : W4.cell? ⟨bj, 0, none⟩ = some (.pointer (some ⟨j, 0, none⟩))) (hba : W4.cell? ⟨ba, 0, none⟩ = some (.int .i64 (at' : Int))) (hfr : W4.cell? ⟨j, 1, none⟩ = some (.int .i64 (fr : Int)))
    (hi0 : i0 = fr + at' / 64) (hb : fr ≤ 65536 ∧ at' ≤ 4194304)
    (a1 : Value → Value → Act) (hassign : ∀ l x v W (K : Act → World → Prop), K (a1 x v) W →
      assign.wpIn (Fence.wide.inRound l) 3 Try.prog (Exit.then K (fun _ _ _ => False)) { tmps := (act.tmps.setIfInBounds 80 x).setIfInBounds 81 v, defers := [] } W)
    (hbody : ∀ l k a c W, I k a c W → 64 * k < f.length → body.wpIn (Fence.wide.inRound l) 3 Try.prog (bodyQ W4.heap.size (I' k a c) Ix W) (a1 (.int .i64 ((i0 : Int) + (k : Int))) (.slice a (Nat.min (f.length - 64 * k) 64) c)) W)
    (hdone : ∀ k a c W, f.length ≤ 64 * k → I k a c W → W.heap[W4.heap.size]? = some (.deferred (some [])) → Q .normal { act with defers := { target := .collected W4.heap.size, args := #[] } :: act.defers } W)
    (hstop : ∀ W, Ix W → W.heap[W4.heap.size]? = some (.deferred (some [])) → Code.ret.wp Try.prog Q { act with defers := { target := .collected W4.heap.size, args := #[] } :: act.defers } W) :
    (Code.rangeFunc g #[80, 81] assign body).wp Try.prog Q act W4 := by
  refine (wpIn_wide (n := 5)).1 (wpIn_rangeFunc ?_)
  intro fn hfn
  obtain ⟨rec, hrec⟩ : ∃ rec : LoopState → Option Code → Loop, rec = fun st pe => { state := st, pending := pe, fn, tmps := act.tmps, params := #[80, 81], assign, body, defers := W4.heap.size } := ⟨_, rfl⟩
  obtain ⟨W5, hW5⟩ : ∃ W5, (W4.alloc (.deferred (some []))).alloc (.loop (rec .ready none)) = W5 := ⟨_, rfl⟩
  have hL : W5.heap[W4.heap.size + 1]? = some (.loop (rec .ready none)) := by
    rw [← hW5]; have := World.alloc_heap_new (w := W4.alloc (.deferred (some []))) (.loop (rec .ready none)); rwa [World.size_alloc] at this
  have hD : W5.heap[W4.heap.size]? = some (.deferred (some [])) := by
    rw [← hW5]; exact (Below.heap_alloc _ _ _ (by simp)).trans (World.alloc_heap_new (w := W4) _)
  have hm5 : Mod None W4 W5 := by rw [← hW5]; exact ((Mod.refl _ _).alloc _).alloc _
  have c5 : ∀ {x : Addr} {v : Value}, W4.cell? x = some v → W5.cell? x = some v := fun h => (hm5.cell (World.block_lt_of_cell? W4 _ h) (fun h => h)).trans h
  have h05 : I 0 a0 c0 W5 := by rw [← hW5]; exact h0 _ _
  refine ⟨W4.heap.size + 1, [{ target := .collected W4.heap.size, args := #[] }], W5, { target := .fn (.func 101) #[.pointer (some ⟨bj, 0, none⟩), .pointer (some ⟨ba, 0, none⟩), .pointer (some ⟨bf, 0, none⟩)], args := #[.func (.yield (W4.heap.size + 1)) #[] #[]] }, W5, 101,
    #[.func (.yield (W4.heap.size + 1)) #[] #[], .pointer (some ⟨bj, 0, none⟩), .pointer (some ⟨ba, 0, none⟩), .pointer (some ⟨bf, 0, none⟩)], W5, ?_, ?_, fun _ _ => trivial, ?_, fun _ => by omega, ?_⟩
  · rw [← hW5, hrec]; exact run_enterLoop_outer _ _ _ _ _
  · simp only [resolve, hg]
    simp [go_sem]
  · simp [invoke, go_sem]
  · have hset : ∀ (W : World) (v : Value) (x : Nat) (o : Obj), W4.heap.size ≤ x → W.heap[x]? = some o → (W.setCell ⟨bf, 0, none⟩ v).heap[x]? = some o := fun W v x o hx ho => by
      have hm : Mod (fun k => k = bf) W (W.setCell ⟨bf, 0, none⟩ v) := Mod.set (S := fun k => k = bf) (Mod.refl _ _) (.inl rfl) v
      rw [hm.block x (Array.getElem?_eq_some_iff.1 ho).1 (fun e => by omega)]; exact ho
    refine (iter_in (W4.heap.size + 1) bj ba bf j fr at' i0 f hfl
      (fun k a c W => I k a c W ∧ W.heap[W4.heap.size + 1]? = some (.loop (rec .ready none)) ∧ W.heap[W4.heap.size]? = some (.deferred (some [])))
      (fun k a c W => I' k a c W ∧ W.heap[W4.heap.size + 1]? = some (.loop (rec .ready none)) ∧ W.heap[W4.heap.size]? = some (.deferred (some [])))
      (fun W => Ix W ∧ W.heap[W4.heap.size + 1]? = some (.loop (rec .done (some .ret))) ∧ W.heap[W4.heap.size]? = some (.deferred (some [])))
      (fun k a c W n ⟨h1, h2, h3⟩ => ⟨hId k a c W n h1, h2, h3⟩) (fun k a c W ⟨h1, _, _⟩ => hI k a c W h1) ?_ ?_ W5 a0 c0 ⟨h05, hL, hD⟩ (c5 hbj) (c5 hba) (c5 hfr) hi0 hb).mono ?_
    · rintro k a c W ⟨hi, hl, hk⟩ hlen
      have hlt : W4.heap.size + 1 < W.heap.size := (Array.getElem?_eq_some_iff.1 hl).1
      have hy := run_yield (P := Try.prog) (args := #[.int .i64 ((i0 : Int) + (k : Int)), .slice a (Nat.min (f.length - 64 * k) 64) c]) hl (by rw [hrec]; rfl)
      have hl2 : (W.putObj (W4.heap.size + 1) (.loop { rec .ready none with state := .busy })).heap[W4.heap.size + 1]? = some (.loop { rec .ready none with state := .busy }) := World.putObj_heap_same hlt
      have hk2 : (W.putObj (W4.heap.size + 1) (.loop { rec .ready none with state := .busy })).heap[W4.heap.size]? = some (.deferred (some [])) := (World.putObj_heap_other (by omega)).trans hk
      have hbr := run_beginRound (P := Try.prog) hl (by rw [hrec])
      rw [hrec] at hy
      have htm : ((#[80, 81] : Array Tmp).zip #[Value.int .i64 ((i0 : Int) + (k : Int)), .slice a (Nat.min (f.length - 64 * k) 64) c]).foldl (fun t (p, v) => t.setIfInBounds p v) act.tmps = (act.tmps.setIfInBounds 80 (.int .i64 ((i0 : Int) + (k : Int)))).setIfInBounds 81 (.slice a (Nat.min (f.length - 64 * k) 64) c) := by simp
      simp only [htm] at hy
      refine ⟨fn, _, assign, body, hy, roundIn_of_wpIn hfn ?_⟩
      refine hassign _ (.int .i64 ((i0 : Int) + (k : Int))) (.slice a (Nat.min (f.length - 64 * k) 64) c) W _ ?_
      refine ⟨_, hbr, ?_⟩
      refine wpIn_mono (hbody _ k a c _ (hIp k a c W _ _ _ (by omega) (by omega) hl hi) hlen) ?_
      rintro e a3 W3 hp
      cases e with
      | normal =>
        obtain ⟨hkp, hi3⟩ := hp
        have hl3 := (hkp (W4.heap.size + 1) (by omega) (by omega)).trans hl2
        have hk3 := (hkp W4.heap.size (by omega) (by omega)).trans hk2
        have hr := run_endRound (P := Try.prog) none hl3
        refine ⟨_, _, hr, .inl ⟨rfl, hIp' k a c W3 _ _ _ (by omega) (by omega) hl3 hi3, ?_, (World.putObj_heap_other (by omega)).trans hk3⟩⟩
        rw [World.putObj_heap_same (Array.getElem?_eq_some_iff.1 hl3).1, hrec]; rfl
      | ret =>
        obtain ⟨hkp, hi3⟩ := hp
        have hl3 := (hkp (W4.heap.size + 1) (by omega) (by omega)).trans hl2
        have hk3 := (hkp W4.heap.size (by omega) (by omega)).trans hk2
        have hr := run_endRound (P := Try.prog) (some .ret) hl3
        refine ⟨_, _, hr, .inr ⟨rfl, hIpx W3 _ _ _ (by omega) (by omega) hl3 hi3, ?_, (World.putObj_heap_other (by omega)).trans hk3⟩⟩
        rw [World.putObj_heap_same (Array.getElem?_eq_some_iff.1 hl3).1, hrec]; rfl
      | exit id => exact hp.elim
      | goto t => exact hp.elim
      | panic ch => exact hp.elim
      | outgrown => exact hp.elim
    · rintro k a c W ⟨hi, hl, hk⟩
      obtain ⟨e1, e2, e3, e4⟩ := hN k a c W hi
      exact ⟨e1, e2, e3, fun a2 c2 g1 g2 g3 g4 => ⟨e4 a2 c2 g1 g2 g3 g4, hset _ _ _ _ (by omega) hl, hset _ _ _ _ (by omega) hk⟩⟩
    · rintro e W2 ⟨⟨v, rfl⟩, (⟨k, a, c, hle, hi, hl, hk⟩ | ⟨hx, hl, hk⟩)⟩
      · have hr := run_endLoop (P := Try.prog) hl (by rw [hrec]; simp)
        have hp : (rec .ready none).pending = none := by rw [hrec]
        rw [hp] at hr
        exact ⟨none, _, hr, hdone k a c _ hle (hIp k a c W2 _ _ _ (by omega) (by omega) hl hi) ((World.putObj_heap_other (by omega)).trans hk)⟩
      · have hr := run_endLoop (P := Try.prog) hl (by rw [hrec]; simp)
        have hp : (rec .done (some .ret)).pending = some .ret := by rw [hrec]
        rw [hp] at hr
        exact ⟨some .ret, _, hr, wpIn_wide.2 (hstop _ (hIpx W2 _ _ _ (by omega) (by omega) hl hx) ((World.putObj_heap_other (by omega)).trans hk))⟩
end Go.Proofs.Ytdhhpnfdnoaihaa

/-! J9 -/
/- What a loop over a journal's sectors keeps. -/
namespace Go.Proofs.Ytdhhpnfdnoaihaa
open Go.RowKit

/-- the writes of some bytes, a sector each -/
def wrs : Nat → DSt → Nat → List UInt8 → DSt × Int
  | 0, st, _, _ => (st, 0)
  | n + 1, st, i, f => if f = [] then (st, 0) else if (st.write (i : Int) (f.take 64)).2 = 0 then wrs n (st.write (i : Int) (f.take 64)).1 (i + 1) (f.drop 64) else st.write (i : Int) (f.take 64)
theorem wrs_nil (n : Nat) (st : DSt) (i : Nat) : wrs n st i [] = (st, 0) := by
  cases n with
  | zero => rfl
  | succ n => unfold wrs; rw [if_pos rfl]
theorem mod_putObj (W : World) (l : Nat) (o : Obj) : Mod (fun x => x = l) W (W.putObj l o) :=
  ⟨rfl, rfl, rfl, by simp [World.putObj], fun k _ hk => World.putObj_heap_other hk⟩
/-- the places that a loop over sectors knows -/
structure Spots (w0 W4 : World) (S : Nat → Prop) (bf rb q : Nat) : Prop where
  bfl : bf < W4.heap.size
  rbl : rb < W4.heap.size
  ql : q < W4.heap.size
  bfS : ¬ S bf
  rbS : ¬ S rb
  qS : ¬ S q
  bq : bf ≠ q
  rq : rb ≠ q
  br : bf ≠ rb
  b0 : w0.heap.size ≤ bf
  r0 : w0.heap.size ≤ rb
  new : ∀ k, S k → w0.heap.size ≤ k
  old : ∀ k, S k → k < W4.heap.size
def LJ (w0 W4 : World) (S : Nat → Prop) (p bf rb q i0 n0 : Nat) (f : List UInt8) (res : DSt × Int) (k kb : Nat) (a : Option Addr) (c : Nat) (W' : World) : Prop :=
  ∃ S' stk, Live w0 W' S' p stk ∧ wrs (f.length + 1 - k) stk (i0 + k) (f.drop (64 * k)) = res ∧ (∀ x, x < W4.heap.size + 2 → S' x → S x) ∧ stk.waits.length ≤ n0 + k ∧
    Mod (fun x => S x ∨ x = bf ∨ x = rb) W4 W' ∧ W4.heap.size + 2 ≤ W'.heap.size ∧ Blk W' bf 27 [.slice a (f.length - 64 * kb) c] ∧ Blk W' rb 40 [.int .i64 0] ∧ Rd W' a (f.drop (64 * kb)) ∧ (f.drop (64 * kb) = [] ∨ ∃ o, a = some ⟨q, o, none⟩) ∧ f.length - 64 * kb ≤ c ∧ c ≤ maxLen
section
variable {w0 W4 : World} {S : Nat → Prop} {p bf rb q i0 n0 : Nat} {f : List UInt8} {res : DSt × Int} {k kb : Nat} {a : Option Addr} {c : Nat} {W' W'' : World}
theorem rd_off {W' W'' : World} {a : Option Addr} {l : List UInt8} {q : Nat} {T : Nat → Prop} (h : Rd W' a l) (hq : l = [] ∨ ∃ o, a = some ⟨q, o, none⟩) (hm : Mod T W' W'') (hT : ¬ T q) : Rd W'' a l := by
  rcases hq with rfl | ⟨o, rfl⟩
  · exact .inl rfl
  · exact hm.rd h (fun x e => by cases e; exact hT)
/-- a step that writes T alone -/
theorem LJ.via {T : Nat → Prop} (hs : Spots w0 W4 S bf rb q) (h : LJ w0 W4 S p bf rb q i0 n0 f res k kb a c W') (hm : Mod T W' W'') (h1 : ¬ T bf ∧ ¬ T rb ∧ ¬ T q) (h2 : ∀ x, x < W4.heap.size → ¬ T x) (h3 : ∀ x, T x → x < W4.heap.size + 2 ) (h4 : ∀ x, T x → w0.heap.size ≤ x) :
    LJ w0 W4 S p bf rb q i0 n0 f res k kb a c W'' := by
  obtain ⟨S', stk, a1, a2, a3, a4, a5, a6, a7, a8, a9, a10, a11, a12⟩ := h
  have hd : ∀ x, S' x → ¬ T x := fun x hx ht => h2 x (hs.old x (a3 x (h3 x ht) hx)) ht
  obtain ⟨b1, _⟩ := a1.turn (Turn.same hm) hd h4
  exact ⟨S', stk, b1, a2, a3, a4, a5.then hm (fun i hi ht => absurd ht (h2 i hi)), Nat.le_trans a6 hm.size, hm.blk a7 h1.1, hm.blk a8 h1.2.1, rd_off a9 a10 hm h1.2.2, a10, a11, a12⟩
theorem LJ.put (hs : Spots w0 W4 S bf rb q) (h : LJ w0 W4 S p bf rb q i0 n0 f res k kb a c W') (l : Nat) (o' : Obj) (h1 : W4.heap.size ≤ l) (h2 : l ≤ W4.heap.size + 1) (h0 : w0.heap.size ≤ W4.heap.size) : LJ w0 W4 S p bf rb q i0 n0 f res k kb a c (W'.putObj l o') :=
  h.via hs (mod_putObj W' l o') ⟨by have := hs.bfl; omega, by have := hs.rbl; omega, by have := hs.ql; omega⟩ (fun x hx e => by omega) (fun x e => by omega) (fun x e => by omega)
theorem LJ.keep (hs : Spots w0 W4 S bf rb q) (h : LJ w0 W4 S p bf rb q i0 n0 f res k kb a c W') (hm : Mod None W' W'') : LJ w0 W4 S p bf rb q i0 n0 f res k kb a c W'' :=
  h.via hs hm ⟨fun h => h, fun h => h, fun h => h⟩ (fun _ _ h => h) (fun _ h => h.elim) (fun _ h => h.elim)
theorem LJ.box (hs : Spots w0 W4 S bf rb q) (h : LJ w0 W4 S p bf rb q i0 n0 f res k kb a c W') {kc : Nat} {a2 : Option Addr} {c2 : Nat} (hr : Rd W' a2 (f.drop (64 * kc))) (hq : f.drop (64 * kc) = [] ∨ ∃ o, a2 = some ⟨q, o, none⟩) (hc : f.length - 64 * kc ≤ c2) (hc2 : c2 ≤ maxLen) :
    LJ w0 W4 S p bf rb q i0 n0 f res k kc a2 c2 (W'.setCell ⟨bf, 0, none⟩ (.slice a2 (f.length - 64 * kc) c2)) := by
  obtain ⟨S', stk, a1, a2', a3, a4, a5, a6, a7, a8, a9, a10, a11, a12⟩ := h
  have hm : Mod (fun x => x = bf) W' (W'.setCell ⟨bf, 0, none⟩ (.slice a2 (f.length - 64 * kc) c2)) := Mod.set (S := fun x => x = bf) (Mod.refl _ _) (.inl rfl) _
  have hd : ∀ x, S' x → ¬ x = bf := fun x hx e => by subst e; exact hs.bfS (a3 x (by have := hs.bfl; omega) hx)
  obtain ⟨b1, _⟩ := a1.turn (Turn.same hm) hd (fun x e => by rw [e]; exact hs.b0)
  exact ⟨S', stk, b1, a2', a3, a4, a5.then hm (fun i _ e => .inr (.inl e)), Nat.le_trans a6 hm.size, a7.set 0 _, hm.blk a8 (fun e => hs.br e.symm), rd_off hr hq hm (fun e => hs.bq e.symm), hq, hc, hc2⟩
theorem LJ.read (h : LJ w0 W4 S p bf rb q i0 n0 f res k kb a c W') : W'.cell? ⟨bf, 0, none⟩ = some (.slice a (f.length - 64 * kb) c) ∧ W'.frozen? ⟨bf, 0, none⟩ = false ∧ Rd W' a (f.drop (64 * kb)) ∧ f.length - 64 * kb ≤ c ∧ c ≤ maxLen := by
  obtain ⟨S', stk, a1, a2', a3, a4, a5, a6, a7, a8, a9, a10, a11, a12⟩ := h
  exact ⟨a7.is rfl, a7.free 0, a9, a11, a12⟩
/-- stopped: an answer that isn't OK -/
def LX (w0 W4 : World) (S : Nat → Prop) (p bf rb : Nat) (res : DSt × Int) (W' : World) : Prop :=
  ∃ S', Live w0 W' S' p res.1 ∧ res.2 ≠ 0 ∧ (∀ x, x < W4.heap.size + 2 → S' x → S x) ∧ Mod (fun x => S x ∨ x = bf ∨ x = rb) W4 W' ∧ Blk W' rb 40 [.int .i64 res.2]
theorem LX.put (hs : Spots w0 W4 S bf rb q) (h : LX w0 W4 S p bf rb res W') (l : Nat) (o' : Obj) (h1 : W4.heap.size ≤ l) (h2 : l ≤ W4.heap.size + 1) (h0 : w0.heap.size ≤ W4.heap.size) : LX w0 W4 S p bf rb res (W'.putObj l o') := by
  obtain ⟨S', a1, a2, a3, a5, a8⟩ := h
  have hm := mod_putObj W' l o'
  have hd : ∀ x, S' x → ¬ x = l := fun x hx e => by have := hs.old x (a3 x (by omega) hx); omega
  obtain ⟨b1, _⟩ := a1.turn (Turn.same hm) hd (fun x e => by omega)
  exact ⟨S', b1, a2, a3, a5.then hm (fun i hi e => by omega), hm.blk a8 (by have := hs.rbl; omega)⟩
theorem wrs_step (st : DSt) (i : Nat) (f : List UInt8) (k : Nat) (hk : 64 * k < f.length) :
    wrs (f.length + 1 - k) st (i + k) (f.drop (64 * k)) = if (st.write ((i : Int) + (k : Int)) ((f.drop (64 * k)).take 64)).2 = 0 then wrs (f.length + 1 - (k + 1)) (st.write ((i : Int) + (k : Int)) ((f.drop (64 * k)).take 64)).1 (i + (k + 1)) (f.drop (64 * (k + 1))) else st.write ((i : Int) + (k : Int)) ((f.drop (64 * k)).take 64) := by
  have h1 : f.length + 1 - k = (f.length + 1 - (k + 1)) + 1 := by omega
  have h2 : f.drop (64 * k) ≠ [] := by intro h; rw [List.drop_eq_nil_iff] at h; omega
  rw [h1]
  conv => lhs; unfold wrs
  rw [if_neg h2, List.drop_drop, show ((i + k : Nat) : Int) = (i : Int) + (k : Int) by omega, show i + k + 1 = i + (k + 1) by omega, show 64 * k + 64 = 64 * (k + 1) by omega]
theorem changed_waits (st : DSt) : st.changed.waits = st.waits := by unfold DSt.changed; split <;> rfl
theorem write_waits (st : DSt) (i : Int) (d : List UInt8) : (st.write i d).1.waits.length ≤ st.waits.length + 1 := by
  unfold DSt.write
  split
  · split
    · exact Nat.le_succ _
    · rw [changed_waits]; simp [DSt.put]
  · exact Nat.le_succ _
/-- what the body's Write needs, and what it leaves -/
theorem LJ.write (hs : Spots w0 W4 S bf rb q) (h : LJ w0 W4 S p bf rb q i0 n0 f res k k a c W') (hk : 64 * k < f.length) (hn : n0 + k < 3000000000000) (m : Nat) (hm : m = Nat.min (f.length - 64 * k) 64) :
    Calls Try.prog 30 #[.pointer (some ⟨p, 0, none⟩), .int .i64 ((i0 : Int) + (k : Int)), .slice a m c] W' fun e w' => ∃ e0, e = .returned (.int .i64 e0) ∧ (∀ x, W4.heap.size ≤ x → x ≤ W4.heap.size + 1 → w'.heap[x]? = W'.heap[x]?) ∧
      Blk w' rb 40 [.int .i64 0] ∧ ((e0 = 0 ∧ LJ w0 W4 S p bf rb q i0 n0 f res (k + 1) k a c w') ∨ (e0 ≠ 0 ∧ LX w0 W4 S p bf rb res (w'.setCell ⟨rb, 0, none⟩ (.int .i64 e0)))) := by
  obtain ⟨S', stk, a1, a2, a3, a4, a5, a6, a7, a8, a9, a10, a11, a12⟩ := h
  have hrd : Rd W' a ((f.drop (64 * k)).take 64) := rd_take a9 64
  have hlen : m = ((f.drop (64 * k)).take 64).length := by
    rw [hm, List.length_take, List.length_drop]; exact Nat.min_comm _ _
  refine (live_write a1 _ a c m _ hlen hrd (by rw [List.length_take]; omega) (by omega)).mono ?_
  rintro e w' ⟨S'', rfl, hl, ht⟩
  have hst := wrs_step stk i0 f k hk
  rw [a2] at hst
  have hnb : ∀ x, x < W4.heap.size + 2 → ¬ S x → ¬ S' x := fun x hx hn hs' => hn (a3 x hx hs')
  have hrb : Blk w' rb 40 [.int .i64 0] := ht.mod.blk a8 (hnb rb (by have := hs.rbl; omega) hs.rbS)
  have h3' : ∀ x, x < W4.heap.size + 2 → S'' x → S x := fun x hx hs'' => a3 x hx (ht.old x (by omega) hs'')
  have hm4 : Mod (fun x => S x ∨ x = bf ∨ x = rb) W4 w' := a5.then ht.mod (fun i hi hs' => .inl (a3 i (by omega) hs'))
  refine ⟨_, rfl, fun x hx hx2 => ?_, hrb, ?_⟩
  · refine ht.mod.block x (by omega) (fun hs' => ?_)
    have := hs.old x (a3 x (by omega) hs'); omega
  · by_cases h0 : (stk.write ((i0 : Int) + (k : Int)) ((f.drop (64 * k)).take 64)).2 = 0
    · left
      rw [if_pos h0] at hst
      refine ⟨h0, S'', _, hl, hst.symm, h3', ?_, hm4, Nat.le_trans a6 ht.mod.size, ht.mod.blk a7 (hnb bf (by have := hs.bfl; omega) hs.bfS), hrb, rd_off a9 a10 ht.mod (hnb q (by have := hs.ql; omega) hs.qS), a10, a11, a12⟩
      have := write_waits stk ((i0 : Int) + (k : Int)) ((f.drop (64 * k)).take 64)
      omega
    · right
      rw [if_neg h0] at hst
      rw [← hst] at h0 hl ⊢
      have hm2 : Mod (fun x => x = rb) w' (w'.setCell ⟨rb, 0, none⟩ (.int .i64 res.2)) := Mod.set (S := fun x => x = rb) (Mod.refl _ _) (.inl rfl) _
      obtain ⟨b1, _⟩ := hl.turn (Turn.same hm2) (fun x hx e => hs.rbS (h3' rb (by have := hs.rbl; omega) (e ▸ hx))) (fun x e => by rw [e]; exact hs.r0)
      exact ⟨h0, S'', b1, h0, h3', hm4.then hm2 (fun i _ e => .inr (.inr e)), hrb.set 0 _⟩
end
end Go.Proofs.Ytdhhpnfdnoaihaa

/-! J7 -/
/- A journal's Append. -/
namespace Go.Proofs.Ytdhhpnfdnoaihaa
open Go.RowKit

def jpart (st : DSt) (fr en : Nat) : List UInt8 := if 0 < en % 64 then (st.read ((fr + en / 64 : Nat) : Int)).1.take (en % 64) else []
def jall (st : DSt) (fr en : Nat) (b : List UInt8) : List UInt8 := jpart st fr en ++ frameL b

@[go_sem] theorem semAt_round (l : Nat) (ρ : Operand → Value) (o : Oper) (h : ∀ c, o.op ≠ .defer c) : Oper.semAt (some l) ρ o = execOp ρ o := Oper.semAt_some l ρ o h
/-- a frame is laid behind -/
def DSt.append (st : DSt) (fr en : Nat) (b : List UInt8) : DSt × Int :=
  if (wrs ((jall st fr en b).length + 1) st (fr + en / 64) (jall st fr en b)).2 = 0 then (wrs ((jall st fr en b).length + 1) st (fr + en / 64) (jall st fr en b)).1.flush
  else wrs ((jall st fr en b).length + 1) st (fr + en / 64) (jall st fr en b)
def APost (w0 w : World) (S : Nat → Prop) (p j fr to en ct bl : Nat) (r : DSt × Int) (e : Ending) (w' : World) : Prop :=
  ∃ S', e = .returned (.int .i64 r.2) ∧ Live w0 w' S' p r.1 ∧ IsJ w' j p fr to (if r.2 = 0 then ((en + bl + 16 : Nat) : Int) else (en : Int)) (if r.2 = 0 then ((ct + 1 : Nat) : Int) else (ct : Int)) ∧
    Mod (fun x => S x ∨ x = j) w w' ∧ (∀ x, x < w.heap.size → S' x → S x)
theorem LJ.mod {w0 W4 : World} {S : Nat → Prop} {p bf rb q i0 n0 : Nat} {f : List UInt8} {res : DSt × Int} {k kb : Nat} {a : Option Addr} {c : Nat} {W' : World} (h : LJ w0 W4 S p bf rb q i0 n0 f res k kb a c W') : Mod (fun x => S x ∨ x = bf ∨ x = rb) W4 W' := by
  obtain ⟨S', stk, a1, a2', a3, a4, a5, a6, a7, a8, a9, a10, a11, a12⟩ := h
  exact a5
theorem LJ.size {w0 W4 : World} {S : Nat → Prop} {p bf rb q i0 n0 : Nat} {f : List UInt8} {res : DSt × Int} {k kb : Nat} {a : Option Addr} {c : Nat} {W' : World} (h : LJ w0 W4 S p bf rb q i0 n0 f res k kb a c W') : W4.heap.size + 2 ≤ W'.heap.size := by
  obtain ⟨S', stk, a1, a2', a3, a4, a5, a6, a7, a8, a9, a10, a11, a12⟩ := h
  exact a6
theorem LJ.spot {w0 W4 : World} {S : Nat → Prop} {p bf rb q i0 n0 : Nat} {f : List UInt8} {res : DSt × Int} {k kb : Nat} {a : Option Addr} {c : Nat} {W' : World} (h : LJ w0 W4 S p bf rb q i0 n0 f res k kb a c W') {a2 : Option Addr} (hm : ∃ m, a2 = a ∨ a2 = Option.map (fun x => x.add m) a) :
    f.drop (64 * (kb + 1)) = [] ∨ ∃ o, a2 = some ⟨q, o, none⟩ := by
  obtain ⟨S', stk, a1, a2', a3, a4, a5, a6, a7, a8, a9, a10, a11, a12⟩ := h
  rcases a10 with h | ⟨o, rfl⟩
  · left; rw [List.drop_eq_nil_iff] at h ⊢; omega
  · right
    obtain ⟨m, rfl | rfl⟩ := hm
    · exact ⟨o, rfl⟩
    · exact ⟨o + m, by rw [Option.map_some, add_mk]⟩
theorem append_fin {w0 w W W4 W' W2 X : World} {S S' S2 T : Nat → Prop} {p j bf rb : Nat} {st2 : DSt} (hm0 : Mod None w W) (hm4 : Mod None W W4) (hmw : Mod (fun x => S x ∨ x = bf ∨ x = rb) W4 W') (h3 : ∀ x, x < W4.heap.size + 2 → S' x → S x)
    (ht2 : Turn S' S2 W' W2) (hl2 : Live w0 W2 S2 p st2) (hx : Mod T W2 X) (hT : ∀ x, T x → x = j ∨ w.heap.size ≤ x) (hTS : ∀ x, T x → x < W'.heap.size ∧ ¬ S' x ∧ w0.heap.size ≤ x) (hbf : w.heap.size ≤ bf) (hrb : w.heap.size ≤ rb) :
    Live w0 X S2 p st2 ∧ Mod (fun x => S x ∨ x = j) w X ∧ (∀ x, x < w.heap.size → S2 x → S x) := by
  have hs1 := hm0.size
  have hs2 := hm4.size
  have hs3 := hmw.size
  have hold : ∀ x, x < w.heap.size → S2 x → S x := fun x hx hs => h3 x (by omega) (ht2.old x (by omega) hs)
  obtain ⟨b1, _⟩ := hl2.turn (Turn.same hx) (fun x hs ht => (hTS x ht).2.1 (ht2.old x (hTS x ht).1 hs)) (fun x ht => (hTS x ht).2.2)
  refine ⟨b1, ?_, hold⟩
  have m1 : Mod (fun x => S x ∨ x = j) w W4 := (hm0.trans hm4).mono (fun _ _ h => h.elim)
  have m2 := m1.then hmw (fun i hi h => by
    rcases h with h | h | h
    · exact .inl h
    · omega
    · omega)
  have m3 := m2.then ht2.mod (fun i hi h => .inl (h3 i (by omega) h))
  exact m3.then hx (fun i hi h => by
    rcases hT i h with h | h
    · exact .inr h
    · omega)
def cutRel (W wc : World) (fa : Option Addr) (fc : Nat) (l : List UInt8) : Prop := (∃ q rest, fa = some ⟨q, 0, none⟩ ∧ W.heap.size ≤ q ∧ Blk wc q 5 (l.map B ++ rest)) ∧ l.length ≤ fc ∧ fc ≤ maxLen ∧ Mod None W wc
theorem OwnB.capm {w : World} {base : Nat} {a : Option Addr} {n c : Nat} {l : List UInt8} (h : OwnB w base (.slice a n c) l) : c ≤ maxLen := by
  rcases h.2 with ⟨e, h0⟩ | ⟨g, cap, cur, e, _, _, hn, hm, _⟩
  · cases e; exact Nat.zero_le _
  · cases e; exact hm
theorem cut_of {W W0 wc : World} {fa : Option Addr} {n fc : Nat} {l : List UInt8} (h : OwnB wc W0.heap.size (.slice fa n fc) l) (hl : 0 < l.length) (hm : Mod None W wc) (hs : W.heap.size ≤ W0.heap.size := by exact Nat.le_refl _) : cutRel W wc fa fc l := by
  obtain ⟨g, rest, rfl, _, hb, hbk⟩ := h.opened hl
  exact ⟨⟨g, rest, rfl, Nat.le_trans hs hb, hbk⟩, h.cap, h.capm, hm⟩
theorem lread_old {w0 w : World} {S : Nat → Prop} {p : Nat} {st : DSt} {i : Int} {old : List UInt8} {n : Int} (h : Calls Try.prog 33 #[.pointer (some ⟨p, 0, none⟩), .int .i64 i] w (LRead w0 w S p st (old, n))) (ho : old.length = 64) :
    Calls Try.prog 33 #[.pointer (some ⟨p, 0, none⟩), .int .i64 i] w fun e w' => ∃ a, e = .returned (.tuple #[.slice a 64 64, .int .i64 n]) ∧ Rd w' a old ∧ Mod None w w' :=
  h.mono fun e w' ⟨a, he, ht, _, _, hm⟩ => ⟨a, by rw [he]; simp only [ho], ht.rd, hm⟩
theorem cut_rd {W wc W2 : World} {fa : Option Addr} {fc : Nat} {l : List UInt8} (h : cutRel W wc fa fc l) (hm : Mod None wc W2) : Rd W2 fa l := by
  obtain ⟨⟨q, rest, rfl, _, hb⟩, _⟩ := h
  exact (hm.blk hb (fun h => h)).rdv 0 (fun i hi => by rw [Nat.zero_add, List.getElem?_append_left hi])
theorem cut_back {W wc W2 W2' W3 : World} {fa ga : Option Addr} {fc gc n : Nat} {l m : List UInt8} (h : cutRel W wc fa fc l) (hm : Mod None wc W2) (ho : OwnB W3 W2'.heap.size (.slice ga n gc) m) (hm3 : Mod None W2' W3) (hl : 0 < m.length) (hs : Mod None W2 W2' := by exact (Mod.refl None _).alloc _) : cutRel W W3 ga gc m := by
  obtain ⟨g, rest, rfl, _, hb, hbk⟩ := ho.opened hl
  obtain ⟨_, _, _, hW⟩ := h
  exact ⟨⟨g, rest, rfl, Nat.le_trans (Nat.le_trans hW.size (hm.trans hs).size) hb, hbk⟩, ho.cap, ho.capm, (hW.trans (hm.trans hs)).trans hm3⟩
set_option maxRecDepth 100000 in
set_option maxHeartbeats 1500000 in
theorem append_go (w0 w : World) (S : Nat → Prop) (p j : Nat) (st : DSt) (h : Live w0 w S p st) (fr to en ct : Nat) (hj : IsJ w j p fr to en ct) (hjS : ¬ S j) (hj0 : w0.heap.size ≤ j) (a : Option Addr) (c : Nat) (b : List UInt8) (hr : Rd w a b) 
    (hf : fr ≤ to ∧ to ≤ st.last.length) (hl : b.length ≤ 1048576) (hroom : en + b.length + 16 ≤ (to - fr) * 64) (hen : en ≤ 4194304) (hctb : ct ≤ 100000000) (hdn : st.down = false) (hws : st.waits.length ≤ 2990000000000) :
    Calls Try.prog 47 #[.pointer (some ⟨j, 0, none⟩), .slice a b.length c] w (APost w0 w S p j fr to en ct b.length (st.append fr en b)) := by
  have HLT := hid h.lt
  have HNW := hid h.2.2
  have HW0 := hid h.2.1.size
  have HJL := hid hj.lt
  have hok := h.ok
  have hmost := hok.most
  have hlen : ¬ (1048576 : Int) < (b.length : Int) := by omega
  have hfi : (0 : Int) ≤ fr ∧ (fr : Int) ≤ to ∧ (to : Int) ≤ 65536 := by omega
  have hlt : ¬ ((to : Int) - fr) * 64 - en < (b.length : Int) + 16 := by omega
  have hw1 : IntKind.i64.wrap (((to : Int) - fr) * 64 - en) = ((to : Int) - fr) * 64 - en := wrap_in _ (by omega)
  have hm0 : Mod None w ((w.alloc (.cells #[.pointer (some ⟨j, 0, none⟩)] 62)).alloc (.cells #[.int .i64 0] 40)) := ((Mod.refl _ _).alloc _).alloc _
  obtain ⟨W, hW⟩ : ∃ W, W = (w.alloc (.cells #[.pointer (some ⟨j, 0, none⟩)] 62)).alloc (.cells #[.int .i64 0] 40) := ⟨_, rfl⟩
  rw [← hW] at hm0
  have hjw : IsJ W j p fr to en ct := hm0.blk hj (fun h => h)
  obtain ⟨_, _, _, h3, _⟩ := hjw.cells
  have hbx : Blk W w.heap.size 62 [.pointer (some ⟨j, 0, none⟩)] := by rw [hW]; exact (Blk.new w 62 _).alloc _
  have hrb : Blk W (w.heap.size + 1) 40 [.int .i64 0] := by
    have := Blk.new (w.alloc (.cells #[.pointer (some ⟨j, 0, none⟩)] 62)) 40 #[.int .i64 0]
    simp only [World.size_alloc] at this
    rw [hW]; exact this
  have hbx0 : W.cell? ⟨w.heap.size, 0, none⟩ = some (.pointer (some ⟨j, 0, none⟩)) := hbx.is rfl
  have HWS := hid (show W.heap.size = w.heap.size + 2 by rw [hW]; simp)
  have HM := hid hm0
  have HBX := hid hbx
  have HRB := hid hrb
  have HJ := hid hjw
  have HLV := hid (h.step hm0)
  have HR := hid (hm0.rd hr (fun _ _ h => h))
  have HQ := hid (fun m => room_quiet hjw hfi m)
  have HX := hid (And.intro hf (And.intro hroom (And.intro hws hmost)))
  generalize hRR : ((to : Int) - fr) * 64 = R at *
  clear hRR hfi hf hroom hbx hrb hjw hj hm0 hr h hws
  refine (callsIn_wide (n := 5)).1 (callsIn_of_wp_marks Try.func47 rfl trivial (wpIn_wide.2 ?_))
  simp only [Try.ntmps47, List.size_toArray, List.length_cons, List.length_nil, Nat.reduceAdd, Nat.reduceSub, Array.replicate_succ, Array.replicate_zero, List.push_toArray, List.append_toArray, List.nil_append, List.cons_append]
  go_wp2_with fail
  rw [← hW]
  clear hW
  go_quiet (first | (go_at_call 74; exact HQ.out _))
  clear hw1 HQ
  rename_i nq
  go_wp2_with fail
  refine (frame_any (W.drewN nq) a c b HR.out hl).mono ?_
  rintro e W1 ⟨fa, fc, rfl, hfo, hfm⟩
  have HFO := hid hfo
  have HFM := hid ((mod_drewN W nq).trans hfm)
  have hbx1 : W1.cell? ⟨w.heap.size, 0, none⟩ = some (.pointer (some ⟨j, 0, none⟩)) := (HFM.out.blk HBX.out (fun h => h)).is rfl
  have hen1 : W1.cell? ⟨j, 3, none⟩ = some (.int .i64 (en : Int)) := Blk.is (HFM.out.blk HJ.out (fun h => h)) rfl
  rw [frameL_len] at *
  have HFL := hid (frameL_len b)
  clear hfo hfm h3 hbx0
  generalize hbl : b.length = bl at *
  go_upto_if 51 with (fail)
  have HC0 := hid (cut_of HFO.out (by rw [HFL.out]; omega) HFM.out)
  clear HFO
  have HRNG := hid (show fr + en / 64 < st.last.length by have := HX.out; omega)
  obtain ⟨pt, hpt⟩ : ∃ pt : Nat, (en : Int) - (en : Int) / 64 * 64 = (pt : Int) := ⟨en % 64, by omega⟩
  have HPT := hid (show pt = en % 64 by omega)
  rw [hpt]
  clear hpt
  obtain ⟨ix, hix⟩ : ∃ ix : Nat, (en : Int) / 64 = (ix : Int) := ⟨en / 64, by omega⟩
  have HIX := hid (show ix = en / 64 by omega)
  rw [hix]
  have hix2 : (ix : Int) * 64 / 64 = (ix : Int) := by omega
  have hixb : ix ≤ 65536 := by omega
  clear hix
  go_cut [6, 9, 10] from 50 (fun f o e wc => ∃ fa fc, f = .slice fa (jall st fr en b).length fc ∧ Hid (cutRel W wc fa fc (jall st fr en b)))
  case first =>
    by_cases hp : 0 < pt
    · have hp1 : (ix : Int) * 64 < (en : Int) := by have := HPT.out; have := HIX.out; omega
      have hj0 : W1.cell? ⟨j, 0, none⟩ = some (.pointer (some ⟨p, 0, none⟩)) := Blk.is (HFM.out.blk HJ.out (fun h => h)) rfl
      have hj1 : W1.cell? ⟨j, 1, none⟩ = some (.int .i64 (fr : Int)) := Blk.is (HFM.out.blk HJ.out (fun h => h)) rfl
      have HLR := hid (live_read (HLV.out.step (HFM.out.trans (Mod.refl None W1).drew)) ((fr : Int) + (ix : Int)))
      have hst : st.read ((fr : Int) + (ix : Int)) = (readTo st.waits (fr + ix) (st.last.getD (fr + ix) []), 0) := by
        have hlt := HRNG.out
        rw [← HIX.out] at hlt
        unfold DSt.read DSt.may
        rw [hdn]
        have h1 : ¬ ((fr : Int) + (ix : Int) < 0 ∨ (st.last.length : Int) ≤ (fr : Int) + (ix : Int)) := by omega
        have h2 : ((fr : Int) + (ix : Int)).toNat = fr + ix := by omega
        simp [h1, h2]
      have hol : (readTo st.waits (fr + ix) (st.last.getD (fr + ix) [])).length = 64 := read_len hok (by have := HRNG.out; rw [← HIX.out] at this; exact this)
      have HJA := hid (show jall st fr en b = (readTo st.waits (fr + ix) (st.last.getD (fr + ix) [])).take pt ++ frameL b by
        unfold jall jpart
        rw [← HPT.out, ← HIX.out, if_pos hp, show ((fr + ix : Nat) : Int) = (fr : Int) + (ix : Int) by omega, hst])
      rw [hst] at HLR
      have HLR := hid (lread_old (HLR.out) hol)
      clear hst
      generalize readTo st.waits (fr + ix) (st.last.getD (fr + ix) []) = old at *
      have HOL := hid hol
      have hpt64 : pt ≤ 64 := by have := HPT.out; omega
      have hwi1 : IntKind.i64.wrap (ix : Int) = ix := wrap_in _ (by omega)
      have hwi2 : IntKind.i64.wrap ((fr : Int) + (ix : Int)) = (fr : Int) + (ix : Int) := wrap_in _ (by have := HRNG.out; omega)
      go_wp2_with fail
      refine wp_region_noPanic ?_
      refine wp_region_held_drew (S := fun w' => w'.cell? ⟨w.heap.size, 0, none⟩ = some (.pointer (some ⟨j, 0, none⟩)) ∧ w'.cell? ⟨j, 0, none⟩ = some (.pointer (some ⟨p, 0, none⟩)) ∧ w'.cell? ⟨j, 1, none⟩ = some (.int .i64 (fr : Int))) (by kernel_rfl) ?_ (fun hHeld => ?_)
      · first | exact ⟨k1, k2, k3⟩ | exact ⟨hbx1, hj0, hj1⟩
      refine wpAnyH_take (i := 0) (oi := { dst := some 53, op := Op.load 62 (Operand.tmp 2), type := 62, pos := "journal.go:103", after := #[], guard := none }) (v := ?vo1_0) rfl (by kernel_rfl) (by kernel_rfl) (by kernel_rfl) (fun _ _ _ h => h) (Or.inl ⟨by rfl, ?yo1_0⟩) (by assumption) ?ro1_0
      case yo1_0 => (intro w hSw; (try dsimp only at hSw); go_simp; (try with_reducible rfl))
      try simp only [Act.put, List.setIfInBounds_toArray, List.set_cons_zero, List.set_cons_succ]
      refine wpAnyH_take (i := 1) (oi := { dst := some 54, op := Op.nilCheck (Operand.tmp 53), type := 0, pos := "journal.go:103", after := #[{ on := 0, ground := Ground.data }], guard := none }) (v := ?vo2_1) rfl (by kernel_rfl) (by kernel_rfl) (by kernel_rfl) (fun _ _ _ h => h) (Or.inl ⟨by rfl, ?yo2_1⟩) (by assumption) ?ro2_1
      case yo2_1 => (intro w hSw; (try dsimp only at hSw); go_simp; (try with_reducible rfl))
      try simp only [Act.put, List.setIfInBounds_toArray, List.set_cons_zero, List.set_cons_succ]
      refine wpAnyH_take (i := 2) (oi := { dst := some 55, op := Op.fieldAddr 118 (Operand.tmp 54) 0, type := 0, pos := "journal.go:103", after := #[{ on := 1, ground := Ground.data }], guard := none }) (v := ?vo3_2) rfl (by kernel_rfl) (by kernel_rfl) (by kernel_rfl) (fun _ _ _ h => h) (Or.inl ⟨by rfl, ?yo3_2⟩) (by assumption) ?ro3_2
      case yo3_2 => (intro w hSw; (try dsimp only at hSw); go_simp; (try with_reducible rfl))
      try simp only [Act.put, List.setIfInBounds_toArray, List.set_cons_zero, List.set_cons_succ]
      refine wpAnyH_take (i := 3) (oi := { dst := some 56, op := Op.load 37 (Operand.tmp 55), type := 37, pos := "journal.go:103", after := #[{ on := 2, ground := Ground.data }], guard := none }) (v := ?vo4_3) rfl (by kernel_rfl) (by kernel_rfl) (by kernel_rfl) (fun _ _ _ h => h) (Or.inl ⟨by rfl, ?yo4_3⟩) (by assumption) ?ro4_3
      case yo4_3 => (intro w hSw; (try dsimp only at hSw); go_simp; (try with_reducible rfl))
      try simp only [Act.put, List.setIfInBounds_toArray, List.set_cons_zero, List.set_cons_succ]
      refine wpAnyH_take (i := 4) (oi := { dst := some 57, op := Op.load 62 (Operand.tmp 2), type := 62, pos := "journal.go:103", after := #[], guard := none }) (v := ?vo5_4) rfl (by kernel_rfl) (by kernel_rfl) (by kernel_rfl) (fun _ _ _ h => h) (Or.inl ⟨by rfl, ?yo5_4⟩) (by assumption) ?ro5_4
      case yo5_4 => (intro w hSw; (try dsimp only at hSw); go_simp; (try with_reducible rfl))
      try simp only [Act.put, List.setIfInBounds_toArray, List.set_cons_zero, List.set_cons_succ]
      refine wpAnyH_take (i := 5) (oi := { dst := some 58, op := Op.nilCheck (Operand.tmp 57), type := 0, pos := "journal.go:103", after := #[{ on := 4, ground := Ground.data }], guard := none }) (v := ?vo6_5) rfl (by kernel_rfl) (by kernel_rfl) (by kernel_rfl) (fun _ _ _ h => h) (Or.inl ⟨by rfl, ?yo6_5⟩) (by assumption) ?ro6_5
      case yo6_5 => (intro w hSw; (try dsimp only at hSw); go_simp; (try with_reducible rfl))
      try simp only [Act.put, List.setIfInBounds_toArray, List.set_cons_zero, List.set_cons_succ]
      refine wpAnyH_take (i := 6) (oi := { dst := some 59, op := Op.fieldAddr 118 (Operand.tmp 58) 1, type := 0, pos := "journal.go:103", after := #[{ on := 5, ground := Ground.data }], guard := none }) (v := ?vo7_6) rfl (by kernel_rfl) (by kernel_rfl) (by kernel_rfl) (fun _ _ _ h => h) (Or.inl ⟨by rfl, ?yo7_6⟩) (by assumption) ?ro7_6
      case yo7_6 => (intro w hSw; (try dsimp only at hSw); go_simp; (try with_reducible rfl))
      try simp only [Act.put, List.setIfInBounds_toArray, List.set_cons_zero, List.set_cons_succ]
      refine wpAnyH_take (i := 7) (oi := { dst := some 60, op := Op.load 3 (Operand.tmp 59), type := 3, pos := "journal.go:103", after := #[{ on := 6, ground := Ground.data }], guard := none }) (v := ?vo8_7) rfl (by kernel_rfl) (by kernel_rfl) (by kernel_rfl) (fun _ _ _ h => h) (Or.inl ⟨by rfl, ?yo8_7⟩) (by assumption) ?ro8_7
      case yo8_7 => (intro w hSw; (try dsimp only at hSw); go_simp; (try with_reducible rfl))
      try simp only [Act.put, List.setIfInBounds_toArray, List.set_cons_zero, List.set_cons_succ]
      refine wpAnyH_take (i := 8) (oi := { dst := some 61, op := Op.move (Operand.tmp 5), type := 2, pos := "journal.go:103", after := #[], guard := none }) (v := ?vo9_8) rfl (by kernel_rfl) (by kernel_rfl) (by kernel_rfl) (fun _ _ _ h => h) (Or.inl ⟨by rfl, ?yo9_8⟩) (by assumption) ?ro9_8
      case yo9_8 => (intro w hSw; (try dsimp only at hSw); go_simp; (try with_reducible rfl))
      try simp only [Act.put, List.setIfInBounds_toArray, List.set_cons_zero, List.set_cons_succ]
      refine wpAnyH_take (i := 9) (oi := { dst := some 62, op := Op.binOp BinOp.quo 2 (Operand.tmp 61) (Operand.const (Value.int IntKind.i64 64)) 2, type := 2, pos := "journal.go:103", after := #[{ on := 8, ground := Ground.data }], guard := none }) (v := ?vo10_9) rfl (by kernel_rfl) (by kernel_rfl) (by kernel_rfl) (fun _ _ _ h => h) (Or.inl ⟨by rfl, ?yo10_9⟩) (by assumption) ?ro10_9
      case yo10_9 => (intro w hSw; (try dsimp only at hSw); go_simp; (try with_reducible rfl))
      try simp only [Act.put, List.setIfInBounds_toArray, List.set_cons_zero, List.set_cons_succ]
      refine wpAnyH_take (i := 10) (oi := { dst := some 63, op := Op.binOp BinOp.add 3 (Operand.tmp 60) (Operand.tmp 62) 3, type := 3, pos := "journal.go:103", after := #[{ on := 7, ground := Ground.data }, { on := 9, ground := Ground.data }], guard := none }) (v := ?vo11_10) rfl (by kernel_rfl) (by kernel_rfl) (by kernel_rfl) (fun _ _ _ h => h) (Or.inl ⟨by rfl, ?yo11_10⟩) (by assumption) ?ro11_10
      case yo11_10 => (intro w hSw; (try dsimp only at hSw); go_simp; (try with_reducible rfl))
      try simp only [Act.put, List.setIfInBounds_toArray, List.set_cons_zero, List.set_cons_succ]
      refine wpAnyH_ready (rs := [11]) (by kernel_rfl) (by simp) ?_
      refine AllReadyH.cons (o := { dst := some 64, op := Op.call { callee := Callee.value (Operand.func 33), args := #[Operand.tmp 56, Operand.tmp 63], argTypes := #[37, 3] }, type := 48, pos := "journal.go:103", after := #[{ on := 3, ground := Ground.data }, { on := 10, ground := Ground.data }], guard := none }) rfl (fun K hK => ?_) AllReadyH.nil
      go_simp; refine HLR.out.mono ?_; rintro e W2 ⟨oa, rfl, hro, hm2⟩; have k1 := (hm2.cell (p := ⟨w.heap.size, 0, none⟩) (World.block_lt_of_cell? W1 _ hbx1) (fun h => h)).trans hbx1; have k2 := (hm2.cell (p := ⟨j, 0, none⟩) (World.block_lt_of_cell? W1 _ hj0) (fun h => h)).trans hj0; have k3 := (hm2.cell (p := ⟨j, 1, none⟩) (World.block_lt_of_cell? W1 _ hj1) (fun h => h)).trans hj1; have HRO := hid hro; have HM2 := hid ((Mod.refl None W1).drew.trans hm2); clear hro hm2; go_wp2_with fail
      refine hK.out _ _ ?_ (fun hHeld => ?_)
      · first | exact ⟨k1, k2, k3⟩ | exact ⟨hbx1, hj0, hj1⟩
      clear hK K
      try simp only [Act.put, List.setIfInBounds_toArray, List.set_cons_zero, List.set_cons_succ]
      refine wpAnyH_take (i := 12) (oi := { dst := some 52, op := Op.move (Operand.tmp 64), type := 48, pos := "journal.go:103", after := #[{ on := 11, ground := Ground.data }], guard := none }) (v := ?vo12_12) rfl (by kernel_rfl) (by kernel_rfl) (by kernel_rfl) (fun _ _ _ h => h) (Or.inl ⟨by rfl, ?yo12_12⟩) (by assumption) ?ro12_12
      case yo12_12 => (intro w hSw; (try dsimp only at hSw); go_simp; (try with_reducible rfl))
      try simp only [Act.put, List.setIfInBounds_toArray, List.set_cons_zero, List.set_cons_succ]
      refine wpAnyH_take (i := 13) (oi := { dst := some 65, op := Op.extract (Operand.tmp 52) 0, type := 27, pos := "journal.go:103", after := #[{ on := 12, ground := Ground.data }], guard := none }) (v := ?vo13_13) rfl (by kernel_rfl) (by kernel_rfl) (by kernel_rfl) (fun _ _ _ h => h) (Or.inl ⟨by rfl, ?yo13_13⟩) (by assumption) ?ro13_13
      case yo13_13 => (intro w hSw; (try dsimp only at hSw); go_simp; (try with_reducible rfl))
      try simp only [Act.put, List.setIfInBounds_toArray, List.set_cons_zero, List.set_cons_succ]
      refine wpAnyH_take (i := 14) (oi := { dst := some 66, op := Op.extract (Operand.tmp 52) 1, type := 40, pos := "journal.go:103", after := #[{ on := 12, ground := Ground.data }, { on := 15, ground := Ground.gcOnly Departure.lateStores }], guard := none }) (v := ?vo14_14) rfl (by kernel_rfl) (by kernel_rfl) (by kernel_rfl) (fun _ _ _ h => h) (Or.inl ⟨by rfl, ?yo14_14⟩) (by assumption) ?ro14_14
      case yo14_14 => (intro w hSw; (try dsimp only at hSw); go_simp; (try with_reducible rfl))
      try simp only [Act.put, List.setIfInBounds_toArray, List.set_cons_zero, List.set_cons_succ]
      refine wpAnyH_take (i := 15) (oi := { dst := some 9, op := Op.assign (Operand.tmp 65), type := 27, pos := "journal.go:103", after := #[{ on := 13, ground := Ground.data }, { on := 11, ground := Ground.chain }, { on := 0, ground := Ground.phase }, { on := 1, ground := Ground.phase }, { on := 2, ground := Ground.phase }, { on := 3, ground := Ground.phase }, { on := 4, ground := Ground.phase }, { on := 5, ground := Ground.phase }, { on := 6, ground := Ground.phase }, { on := 7, ground := Ground.phase }, { on := 8, ground := Ground.phase }, { on := 9, ground := Ground.phase }, { on := 10, ground := Ground.phase }, { on := 11, ground := Ground.phase }, { on := 12, ground := Ground.phase }, { on := 13, ground := Ground.phase }, { on := 14, ground := Ground.textOnly Departure.lateStores }], guard := none }) (v := ?vo15_15) rfl (by kernel_rfl) (by kernel_rfl) (by kernel_rfl) (fun _ _ _ h => h) (Or.inl ⟨by rfl, ?yo15_15⟩) (by assumption) ?ro15_15
      case yo15_15 => (intro w hSw; (try dsimp only at hSw); go_simp; (try with_reducible rfl))
      try simp only [Act.put, List.setIfInBounds_toArray, List.set_cons_zero, List.set_cons_succ]
      refine wpAnyH_take (i := 16) (oi := { dst := some 10, op := Op.assign (Operand.tmp 66), type := 40, pos := "journal.go:103", after := #[{ on := 14, ground := Ground.data }, { on := 15, ground := Ground.chain }, { on := 0, ground := Ground.phase }, { on := 1, ground := Ground.phase }, { on := 2, ground := Ground.phase }, { on := 3, ground := Ground.phase }, { on := 4, ground := Ground.phase }, { on := 5, ground := Ground.phase }, { on := 6, ground := Ground.phase }, { on := 7, ground := Ground.phase }, { on := 8, ground := Ground.phase }, { on := 9, ground := Ground.phase }, { on := 10, ground := Ground.phase }, { on := 11, ground := Ground.phase }, { on := 12, ground := Ground.phase }, { on := 13, ground := Ground.phase }, { on := 14, ground := Ground.phase }, { on := 15, ground := Ground.phase }], guard := none }) (v := ?vo16_16) rfl (by kernel_rfl) (by kernel_rfl) (by kernel_rfl) (fun _ _ _ h => h) (Or.inl ⟨by rfl, ?yo16_16⟩) (by assumption) ?ro16_16
      case yo16_16 => (intro w hSw; (try dsimp only at hSw); go_simp; (try with_reducible rfl))
      try simp only [Act.put, List.setIfInBounds_toArray, List.set_cons_zero, List.set_cons_succ]
      refine wpAnyH_done (by kernel_rfl) ?_ _
      refine NoPanic.normal ?_
      clear k2 k3 hj0 hj1 HLR
      have HP := hid (parts2 W2 _ (.slice oa pt 64) (.slice fa (bl + 16) fc) rfl (old.take pt) (frameL b) ⟨oa, 64, by rw [List.length_take, HOL.out, Nat.min_eq_left hpt64], rd_take HRO.out pt, by rw [List.length_take, HOL.out]; omega⟩ ⟨fa, fc, by rw [HFL.out], cut_rd HC0.out HM2.out, by rw [HFL.out]; omega⟩ _ rfl)
      go_wp2_with fail
      refine (concat_any _ _ 2 [old.take pt, frameL b] HP.out (by simp) (by simp [HFL.out]; omega) (by simp [HFL.out, HOL.out]; omega)).mono ?_
      rintro e W3 ⟨ga, gc, rfl, ho, hm3⟩
      have hfl2 : [old.take pt, frameL b].flatten = jall st fr en b := by rw [HJA.out]; simp
      rw [hfl2] at ho ⊢
      have HO := hid (cut_back HC0.out HM2.out ho hm3 (by rw [HJA.out, List.length_append, HFL.out]; omega))
      clear ho hm3 hfl2 HP
      go_wp2_with fail
      go_meet
      case rel => exact ⟨ga, gc, rfl, HO.out⟩
    · have hp1 : ¬ (ix : Int) * 64 < (en : Int) := by have := HPT.out; have := HIX.out; omega
      have HJA := hid (show jall st fr en b = frameL b by unfold jall jpart; rw [← HPT.out, if_neg hp]; rfl)
      clear hp
      go_wp2_with fail
      go_meet
      case rel => exact ⟨fa, fc, by rw [HJA.out, HFL.out], by rw [HJA.out]; exact HC0.out⟩
  case rest =>
    obtain ⟨fa2, fc2, rfl, hcr⟩ := hcut
    have HAL := hid (show (jall st fr en b).length ≤ bl + 16 + 64 by
      unfold jall jpart
      rw [List.length_append, HFL.out]
      split
      · rw [List.length_take]; omega
      · simp)
    have HCR := hid hcr.out
    clear hcr
    generalize hal : jall st fr en b = al at *
    have HALE := hid hal
    clear hal
    have hbxc : wc.cell? ⟨w.heap.size, 0, none⟩ = some (.pointer (some ⟨j, 0, none⟩)) := (HCR.out.2.2.2.blk HBX.out (fun h => h)).is rfl
    obtain ⟨⟨q, rest, rfl, hq1, hqb⟩, hc1, hc2, hcm⟩ := HCR.out
    have hqx := hqb.lt
    go_wp2_with fail
    refine (sectors_any wc j (some ⟨q, 0, none⟩) al.length fc2 _).mono ?_
    rintro e W4 ⟨rfl, hw4⟩
    have hm4 : Mod None wc W4 := by rw [hw4]; exact (((Mod.refl None wc).alloc _).alloc _).alloc _
    have hs4 : W4.heap.size = wc.heap.size + 3 := by rw [hw4]; simp
    have hbb : Blk W4 (wc.heap.size + 1) 27 [.slice (some ⟨q, 0, none⟩) al.length fc2] := by
      rw [hw4]
      have := (Blk.new (wc.alloc (.cells #[.pointer (some ⟨j, 0, none⟩)] 62)) 27 #[.slice (some ⟨q, 0, none⟩) al.length fc2]).alloc (.cells #[.int .i64 ((ix : Int) * 64)] 2)
      simpa using this
    have hbj : Blk W4 wc.heap.size 62 [.pointer (some ⟨j, 0, none⟩)] := by rw [hw4]; exact ((Blk.new wc 62 _).alloc _).alloc _
    have hba : Blk W4 (wc.heap.size + 2) 2 [.int .i64 ((ix : Int) * 64)] := by
      rw [hw4]
      have := Blk.new ((wc.alloc (.cells #[.pointer (some ⟨j, 0, none⟩)] 62)).alloc (.cells #[.slice (some ⟨q, 0, none⟩) al.length fc2] 27)) 2 #[.int .i64 ((ix : Int) * 64)]
      simpa using this
    have HM4 := hid (hcm.trans hm4)
    have HJ4 := hid (show IsJ W4 j p fr to en ct from HM4.out.blk HJ.out (fun h => h))
    have hfr4 : W4.cell? ⟨j, 1, none⟩ = some (.int .i64 (fr : Int)) := HJ4.out.cells.2.1
    have HBX4 := hid (HM4.out.blk HBX.out (fun h => h))
    have HRB4 := hid (HM4.out.blk HRB.out (fun h => h))
    have hws : wc.heap.size ≥ w.heap.size + 2 := by have := hcm.size; have := HWS.out; omega
    have HWC := hid hws
    have HSP : Hid (Spots w0 W4 S (wc.heap.size + 1) (w.heap.size + 1) q) := by
      have h1 := HWS.out
      have h2 := HW0.out
      refine ⟨by omega, by omega, by omega, fun hs => ?_, fun hs => ?_, fun hs => ?_, by omega, by omega, by omega, by omega, by omega, HNW.out, fun k hk => ?_⟩
      · have := HLT.out _ hs; omega
      · have := HLT.out _ hs; omega
      · have := HLT.out _ hs; omega
      · have := HLT.out _ hk; omega
    have HLV4 := hid (HLV.out.step HM4.out)
    have HRD4 := hid (show Rd W4 (some ⟨q, 0, none⟩) al from (hm4.blk hqb (fun h => h)).rdv 0 (fun i hi => by rw [Nat.zero_add, List.getElem?_append_left hi]))
    have HBB := hid hbb
    have HCC := hid (And.intro hc1 hc2)
    have HS4 := hid (show wc.heap.size + 3 = W4.heap.size from hs4.symm)
    have hcbj : W4.cell? ⟨wc.heap.size, 0, none⟩ = some (.pointer (some ⟨j, 0, none⟩)) := hbj.is rfl
    have hcba : W4.cell? ⟨wc.heap.size + 2, 0, none⟩ = some (.int .i64 (((ix * 64 : Nat)) : Int)) := by rw [show (((ix * 64 : Nat)) : Int) = (ix : Int) * 64 by omega]; exact hba.is rfl
    have HCB := hid (And.intro hcbj hcba)
    clear hw4 hm4 hs4 hbb hbj hba hq1 hqb hqx hc1 hc2 hcm hcbj hcba HCR
    obtain ⟨res, hres⟩ : ∃ res, wrs (al.length + 1) st (fr + ix) al = res := ⟨_, rfl⟩
    have HRES := hid hres
    clear hres
    go_wp2_with fail
    refine wp_sectors (bj := wc.heap.size) (ba := wc.heap.size + 2) (bf := wc.heap.size + 1) (j := j) (fr := fr) (at' := ix * 64) (i0 := fr + ix) (f := al) ?hfl ?hg
      (fun k a c W' => LJ w0 W4 S p (wc.heap.size + 1) (w.heap.size + 1) q (fr + ix) st.waits.length al res k k a c W')
      (fun k a c W' => LJ w0 W4 S p (wc.heap.size + 1) (w.heap.size + 1) q (fr + ix) st.waits.length al res (k + 1) k a c W')
      (fun W' => LX w0 W4 S p (wc.heap.size + 1) (w.heap.size + 1) res W') ?hIp ?hIp' ?hIpx (some ⟨q, 0, none⟩) fc2 ?h0 ?hId ?hI ?hN ?hbf HCB.out.1 HCB.out.2 hfr4 ?hi0 ?hb ?a1 ?hassign ?hbody ?hdone ?hstop
    case hfl => have := HAL.out; omega
    case hg => rfl
    case hIp => exact fun k a c W l o o' h1 h2 _ h => h.put HSP.out l o' h1 h2 (by have := HS4.out; have := HW0.out; omega)
    case hIp' => exact fun k a c W l o o' h1 h2 _ h => h.put HSP.out l o' h1 h2 (by have := HS4.out; have := HW0.out; omega)
    case hIpx => exact fun W l o o' h1 h2 _ h => h.put HSP.out l o' h1 h2 (by have := HS4.out; have := HW0.out; omega)
    case hassign =>
      intro l x v W' K hK
      gi_wp2
      exact hK
    case h0 =>
      intro o1 o2
      have hm : Mod None W4 ((W4.alloc o1).alloc o2) := ((Mod.refl None W4).alloc o1).alloc o2
      refine ⟨S, st, HLV4.out.step hm, ?_, fun x _ h => h, Nat.le_refl _, hm.mono (fun _ _ h => h.elim), by simp, ?_, hm.blk HRB4.out (fun h => h), hm.rd HRD4.out (fun _ _ h => h), .inr ⟨0, rfl⟩, HCC.out.1, HCC.out.2⟩
      · simpa using HRES.out
      · exact hm.blk HBB.out (fun h => h)
    case hId => exact fun k a c W n h => h.keep HSP.out (mod_drewN W n)
    case hI => exact fun k a c W h => h.read
    case hN => exact fun k a c W h => ⟨h.read.1, h.read.2.1, h.read.2.2.1, fun a2 c2 hr hm hc hc2 => h.box HSP.out hr (h.spot hm) hc hc2⟩
    case hbf => have := HS4.out; omega
    case hi0 => omega
    case hb => have := HRNG.out; omega
    case hbody =>
      intro l k a' c' W' hi hk
      have hmi := hi.mod
      have h1 := HWS.out
      have hnj : ¬ (S j ∨ j = wc.heap.size + 1 ∨ j = w.heap.size + 1) := by
        have := HJL.out
        rintro (h | h | h)
        · exact hjS h
        · omega
        · omega
      have hnb : ¬ (S w.heap.size ∨ w.heap.size = wc.heap.size + 1 ∨ w.heap.size = w.heap.size + 1) := by
        rintro (h | h | h)
        · have := HLT.out _ h; omega
        · omega
        · omega
      have hbx' : W'.cell? ⟨w.heap.size, 0, none⟩ = some (.pointer (some ⟨j, 0, none⟩)) := (hmi.blk HBX4.out hnb).is rfl
      have hj0' : W'.cell? ⟨j, 0, none⟩ = some (.pointer (some ⟨p, 0, none⟩)) := Blk.is (hmi.blk HJ4.out hnj) rfl
      have HWR := hid (hi.write HSP.out hk (by have := HX.out; have := HAL.out; omega) _ rfl)
      have HSZ := hid hi.size
      clear hmi hnj hnb hi hk h1
      generalize Nat.min (al.length - 64 * k) 64 = m at *
      rw [show (((fr + ix : Nat)) : Int) = (fr : Int) + (ix : Int) by omega] at HWR
      have HFAR := hid (show ∀ (X : World) (v : Value) (x : Nat), W4.heap.size ≤ x → x < X.heap.size → (X.setCell ⟨w.heap.size + 1, 0, none⟩ v).heap[x]? = X.heap[x]? from fun X v x hx hlt => by
        have hmm : Mod (fun k => k = w.heap.size + 1) X (X.setCell ⟨w.heap.size + 1, 0, none⟩ v) := Mod.set (S := fun k => k = w.heap.size + 1) (Mod.refl _ _) (.inl rfl) v
        exact hmm.block x hlt (fun e => by have := HSP.out.rbl; omega))
      gi_wp2_with fail
      refine ⟨trivial, (CallsIn.inRound l (callsIn_wide.2 HWR.out)).mono ?_⟩
      rintro e w' ⟨e0, rfl, hkp, hrb, ⟨rfl, hlj⟩ | ⟨hne, hlx⟩⟩
      · have HKP := hid hkp
        have HLJ := hid hlj
        clear hkp hrb hlj HWR
        gi_wp2
        exact ⟨HKP.out, HLJ.out⟩
      · have HKP := hid hkp
        have HLX := hid hlx
        have HNE := hid hne
        have hrb0 : w'.cell? ⟨w.heap.size + 1, 0, none⟩ = some (.int .i64 0) := hrb.is rfl
        have hrbf := hrb.free 0
        have hne' : ¬ e0 = 0 := hne
        clear hkp hrb hlx HWR hne
        gi_wp2
        refine ⟨fun x hx hx2 => ?_, HLX.out⟩
        have hlt : x < w'.heap.size := by
          have e := HKP.out x hx hx2
          have e2 : W'.heap[x]? = some (W'.heap[x]'(by have := HSZ.out; omega)) := Array.getElem?_eq_getElem _
          rw [e2] at e
          exact (Array.getElem?_eq_some_iff.1 e).1
        exact (HFAR.out _ _ x hx hlt).trans (HKP.out x hx hx2)
    case hdone =>
      intro k a' c' W' hk hi hD
      have hmi := hi.mod
      have h1 := HWS.out
      have hnj : ¬ (S j ∨ j = wc.heap.size + 1 ∨ j = w.heap.size + 1) := by
        have := HJL.out
        rintro (h | h | h)
        · exact hjS h
        · omega
        · omega
      have hnb : ¬ (S w.heap.size ∨ w.heap.size = wc.heap.size + 1 ∨ w.heap.size = w.heap.size + 1) := by
        rintro (h | h | h)
        · have := HLT.out _ h; omega
        · omega
        · omega
      obtain ⟨S', stk, b1, b2, b3, _, b5, b6, _, b8, _⟩ := hi
      have hnil : al.drop (64 * k) = [] := List.drop_eq_nil_of_le hk
      rw [hnil, wrs_nil] at b2
      have hbx' : W'.cell? ⟨w.heap.size, 0, none⟩ = some (.pointer (some ⟨j, 0, none⟩)) := (hmi.blk HBX4.out hnb).is rfl
      have HJW := hid (show IsJ W' j p fr to en ct from hmi.blk HJ4.out hnj)
      obtain ⟨hj0', _, _, _, _⟩ := HJW.out.cells
      have HAP := hid (show st.append fr en b = stk.flush by
        unfold DSt.append
        rw [HALE.out, ← HIX.out, HRES.out, ← b2]; rfl)
      have HF := hid (live_flush b1)
      obtain ⟨st2, e2, hfe⟩ : ∃ st2 e2, stk.flush = (st2, e2) := ⟨_, _, rfl⟩
      rw [hfe] at HF HAP
      have hnS : ∀ x, x < W4.heap.size + 2 → ¬ S x → ¬ S' x := fun x hx hn h => hn (b3 x hx h)
      have HNJ := hid (hnS j (by have := HJL.out; have := HS4.out; omega) hjS)
      have HNB := hid (hnS w.heap.size (by have := HS4.out; omega) (fun h => by have := HLT.out _ h; omega))
      have HNR := hid (hnS (w.heap.size + 1) (by have := HS4.out; omega) (fun h => by have := HLT.out _ h; omega))
      have HND := hid (hnS W4.heap.size (by omega) (fun h => by have := HLT.out _ h; have := HS4.out; omega))
      have HBXW := hid (hmi.blk HBX4.out hnb)
      have HRBW := hid b8
      have HMW := hid hmi
      have H3 := hid b3
      have H6 := hid b6
      have HD := hid hD
      clear hmi hnj hnb b1 b2 b3 b5 b6 b8 hnil hfe hnS hk h1 hD
      go_wp2_with fail
      refine HF.out.mono ?_
      rintro e W2 ⟨S2, rfl, hl2, ht2⟩
      have HL2 := hid hl2
      have HT2 := hid ht2
      have HJ2 := hid (show IsJ W2 j p fr to en ct from ht2.mod.blk HJW.out HNJ.out)
      have HBX2 := hid (ht2.mod.blk HBXW.out HNB.out)
      have HRB2 := hid (ht2.mod.blk HRBW.out HNR.out)
      have HD2 := hid (show W2.heap[W4.heap.size]? = some (.deferred (some [])) by rw [ht2.mod.block W4.heap.size (by have := H6.out; omega) HND.out]; exact HD.out)
      have hbx2 : W2.cell? ⟨w.heap.size, 0, none⟩ = some (.pointer (some ⟨j, 0, none⟩)) := HBX2.out.is rfl
      have hrb2 : W2.cell? ⟨w.heap.size + 1, 0, none⟩ = some (.int .i64 0) := HRB2.out.is rfl
      have hrbf := HRB2.out.free 0
      clear hl2 ht2 HF hbx' hj0'
      by_cases h0 : e2 = 0
      · subst h0
        obtain ⟨_, _, _, hj3, hj4⟩ := HJ2.out.cells
        have f3 := Blk.free HJ2.out 3
        have f4 := Blk.free HJ2.out 4
        have hsz2 := HT2.out.mod.size
        have hfin := fun (X : World) (hx : Mod (fun x => x = j ∨ x = w.heap.size + 1 ∨ x = W4.heap.size) W2 X) => append_fin (X := X) HM.out HM4.out HMW.out H3.out HT2.out HL2.out hx (fun x h => by
            have := HM.out.size
            have := HS4.out
            have := HWC.out
            rcases h with h | h | h
            · exact .inl h
            · exact .inr (by omega)
            · exact .inr (by omega)) (fun x h => by
            have := H6.out
            have := HW0.out
            have := HWC.out
            have := HS4.out
            have := HJL.out
            rcases h with rfl | rfl | rfl
            · exact ⟨by omega, HNJ.out, hj0⟩
            · exact ⟨by omega, HNR.out, by omega⟩
            · exact ⟨by omega, HND.out, by omega⟩) (by have := HWC.out; omega) (by omega)
        have HFIN := hid hfin
        clear hfin hsz2
        have hct : IntKind.i64.wrap ((ct : Int) + 1) = (ct : Int) + 1 := wrap_in _ (by omega)
        go_wp2_with fail
        refine wp_region_noPanic ?_
        go_region
        all_goals
          refine NoPanic.normal ?_
          go_wp2_with fail
        have hX : Mod (fun x => x = j ∨ x = w.heap.size + 1) W2 (((W2.setCell ⟨j, 3, none⟩ (.int .i64 ((en : Int) + ((bl : Int) + 16)))).setCell ⟨j, 4, none⟩ (.int .i64 ((ct : Int) + 1))).setCell ⟨w.heap.size + 1, 0, none⟩ (.int .i64 0)) :=
          Mod.set (S := fun x => x = j ∨ x = w.heap.size + 1) (Mod.set (S := fun x => x = j ∨ x = w.heap.size + 1) (Mod.set (S := fun x => x = j ∨ x = w.heap.size + 1) (Mod.refl _ _) (.inl (.inl rfl)) _) (.inl (.inl rfl)) _) (.inl (.inr rfl)) _
        have hjr : j ≠ w.heap.size + 1 := by have := HJL.out; omega
        have hJX : IsJ (((W2.setCell ⟨j, 3, none⟩ (.int .i64 ((en : Int) + ((bl : Int) + 16)))).setCell ⟨j, 4, none⟩ (.int .i64 ((ct : Int) + 1))).setCell ⟨w.heap.size + 1, 0, none⟩ (.int .i64 0)) j p fr to ((en : Int) + ((bl : Int) + 16)) ((ct : Int) + 1) :=
          ((Blk.set HJ2.out 3 _).set 4 _).set_other (by exact hjr) _
        have hRX := ((HRB2.out.set_other (a := ⟨j, 3, none⟩) (by exact Ne.symm hjr) (.int .i64 ((en : Int) + ((bl : Int) + 16)))).set_other (a := ⟨j, 4, none⟩) (by exact Ne.symm hjr) (.int .i64 ((ct : Int) + 1))).set 0 (.int .i64 0)
        generalize ((W2.setCell ⟨j, 3, none⟩ (.int .i64 ((en : Int) + ((bl : Int) + 16)))).setCell ⟨j, 4, none⟩ (.int .i64 ((ct : Int) + 1))).setCell ⟨w.heap.size + 1, 0, none⟩ (.int .i64 0) = X at *
        have hd3 : X.heap[W4.heap.size]? = some (.deferred (some [])) := by
          rw [hX.block W4.heap.size (Array.getElem?_eq_some_iff.1 HD2.out).1 (by have := HSP.out.rbl; have := HJL.out; have := HS4.out; have := HWC.out; omega)]; exact HD2.out
        have hmx : Mod (fun x => x = j ∨ x = w.heap.size + 1 ∨ x = W4.heap.size) W2 (X.drew.putObj W4.heap.size (.deferred none)) :=
          (hX.drew.mono (fun x _ h => h.imp id Or.inl)).trans ((mod_putObj X.drew W4.heap.size (.deferred none)).mono (fun x _ h => Or.inr (Or.inr h)))
        obtain ⟨g1, g2, g3⟩ := HFIN.out _ hmx
        refine ret47d _ _ (w.heap.size + 1) W4.heap.size 0 hd3 rfl (hRX.is rfl) ?_
        rw [HAP.out]
        refine ⟨S2, rfl, g1, ?_, g2, g3⟩
        show IsJ _ _ _ _ _ (if (0 : Int) = 0 then ((en + bl + 16 : Nat) : Int) else (en : Int)) (if (0 : Int) = 0 then ((ct + 1 : Nat) : Int) else (ct : Int))
        rw [if_pos rfl, if_pos rfl]
        have := (mod_putObj X.drew W4.heap.size (.deferred none)).blk (Blk.drew hJX) (by have := HJL.out; have := HS4.out; have := HWC.out; omega)
        have e1 : ((en + bl + 16 : Nat) : Int) = (en : Int) + ((bl : Int) + 16) := by omega
        have e2 : ((ct + 1 : Nat) : Int) = (ct : Int) + 1 := by omega
        rw [e1, e2]; exact this
      · have hne : ¬ e2 = 0 := h0
        have hfin := fun (X : World) (hx : Mod (fun x => x = w.heap.size + 1 ∨ x = W4.heap.size) W2 X) => append_fin (X := X) (j := j) HM.out HM4.out HMW.out H3.out HT2.out HL2.out hx (fun x h => by
            have := HS4.out
            have := HWC.out
            rcases h with h | h
            · exact .inr (by omega)
            · exact .inr (by omega)) (fun x h => by
            have := H6.out
            have := HW0.out
            have := HWC.out
            have := HS4.out
            rcases h with rfl | rfl
            · exact ⟨by omega, HNR.out, by omega⟩
            · exact ⟨by omega, HND.out, by omega⟩) (by have := HWC.out; omega) (by omega)
        have HFIN := hid hfin
        clear hfin
        go_wp2_with fail
        have hms : Mod (fun x => x = w.heap.size + 1 ∨ x = W4.heap.size) W2 (W2.setCell ⟨w.heap.size + 1, 0, none⟩ (.int .i64 e2)) := Mod.set (Mod.refl _ _) (.inl (.inl rfl)) _
        have hd3 : (W2.setCell ⟨w.heap.size + 1, 0, none⟩ (.int .i64 e2)).heap[W4.heap.size]? = some (.deferred (some [])) := by
          have hmm : Mod (fun x => x = w.heap.size + 1) W2 (W2.setCell ⟨w.heap.size + 1, 0, none⟩ (.int .i64 e2)) := Mod.set (S := fun x => x = w.heap.size + 1) (Mod.refl _ _) (.inl rfl) _
          rw [hmm.block W4.heap.size (Array.getElem?_eq_some_iff.1 HD2.out).1 (by have := HSP.out.rbl; omega)]; exact HD2.out
        have hmx := hms.trans ((mod_putObj (W2.setCell ⟨w.heap.size + 1, 0, none⟩ (.int .i64 e2)) W4.heap.size (.deferred none)).mono (fun x _ h => Or.inr h))
        obtain ⟨g1, g2, g3⟩ := HFIN.out _ hmx
        refine ret47d _ _ (w.heap.size + 1) W4.heap.size e2 hd3 rfl ((HRB2.out.set 0 _).is rfl) ?_
        rw [HAP.out]
        refine ⟨S2, rfl, g1, ?_, g2, g3⟩
        rw [if_neg hne, if_neg hne]
        exact hmx.blk HJ2.out (by have := HJL.out; have := HS4.out; have := HWC.out; omega)
    case hstop =>
      intro W' hx hD
      obtain ⟨S', b1, b2, b3, b5, b8⟩ := hx
      have HAP := hid (show st.append fr en b = res by
        unfold DSt.append
        rw [HALE.out, ← HIX.out, HRES.out, if_neg b2])
      have hmx := mod_putObj W' W4.heap.size (.deferred none)
      have hDl := (Array.getElem?_eq_some_iff.1 hD).1
      have hfin := append_fin (X := W'.putObj W4.heap.size (.deferred none)) (j := j) HM.out HM4.out b5 b3 (Turn.same (Mod.refl S' W')) b1 hmx (fun x h => .inr (by have := HS4.out; have := HWC.out; omega))
        (fun x h => ⟨by omega, fun hs => by have := HLT.out _ (b3 x (by omega) hs); have := HS4.out; have := HWC.out; omega, by have := HS4.out; have := HWC.out; have := HW0.out; omega⟩) (by have := HWC.out; omega) (by omega)
      have HFIN := hid hfin
      have HJX := hid (show IsJ W' j p fr to en ct from b5.blk HJ4.out (by
        have := HJL.out
        have := HWC.out
        rintro (h | h | h)
        · exact hjS h
        · omega
        · omega))
      have HR8 := hid b8
      have HB2 := hid b2
      have HMX := hid hmx
      have HDD := hid hD
      clear hmx hfin b1 b3 b5 b8 b2 hDl hD
      go_wp2_with fail
      refine ret47d _ _ (w.heap.size + 1) W4.heap.size res.2 HDD.out rfl (HR8.out.is rfl) ?_
      obtain ⟨g1, g2, g3⟩ := HFIN.out
      rw [HAP.out]
      refine ⟨S', rfl, g1, ?_, g2, g3⟩
      rw [if_neg HB2.out, if_neg HB2.out]
      exact HMX.out.blk HJX.out (by have := HJL.out; have := HS4.out; have := HWC.out; omega)
end Go.Proofs.Ytdhhpnfdnoaihaa

/-! R3 -/
/- A journal's area is read. -/
namespace Go.Proofs.Ytdhhpnfdnoaihaa
open Go.RowKit

def secs (st : DSt) (fr : Nat) : Nat → List UInt8
  | 0 => []
  | k + 1 => secs st fr k ++ (st.read ((fr + k : Nat) : Int)).1
/-- the area's first bytes -/
def area (st : DSt) (fr n : Nat) : List UInt8 := (secs st fr ((n + 63) / 64)).take n
theorem read_up {st : DSt} (hok : st.Ok) (hd : st.down = false) {i : Nat} (hi : i < st.last.length) : ∃ s, st.read (i : Int) = (s, 0) ∧ s.length = 64 := by
  refine ⟨_, ?_, read_len hok hi⟩
  unfold DSt.read DSt.may
  rw [hd]
  have h1 : ¬ ((i : Int) < 0 ∨ (st.last.length : Int) ≤ (i : Int)) := by omega
  simp only [Bool.false_eq_true, if_false, h1, Int.toNat_natCast, if_true]
theorem secs_len {st : DSt} (hok : st.Ok) (hd : st.down = false) (fr : Nat) : ∀ k, fr + k ≤ st.last.length → (secs st fr k).length = 64 * k
  | 0, _ => rfl
  | k + 1, h => by
    obtain ⟨s, hs, hl⟩ := read_up hok hd (i := fr + k) (by omega)
    unfold secs
    rw [List.length_append, secs_len hok hd fr k (by omega), hs, hl]; omega
def AreaPost (st : DSt) (fr n : Nat) (w : World) (e : Ending) (w' : World) : Prop :=
  ∃ a c, e = .returned (.tuple #[.slice a n c, .int .i64 0]) ∧ Rd w' a (area st fr n) ∧ n ≤ c ∧ c ≤ maxLen ∧ Mod None w w'
set_option maxRecDepth 100000 in
set_option maxHeartbeats 1600000 in
theorem area_any (w0 w : World) (S : Nat → Prop) (p j : Nat) (st : DSt) (h : Live w0 w S p st) (fr to : Nat) (en ct : Int) (hj : IsJ w j p fr to en ct) (n : Nat) (hd : st.down = false) (hf : fr ≤ to ∧ to ≤ st.last.length) (hn : n ≤ 64 * (to - fr)) :
    Calls Try.prog 75 #[.pointer (some ⟨j, 0, none⟩), .int .i64 (n : Int)] w (AreaPost st fr n w) := by
  have hok := h.ok
  have hmost := hok.most
  have hz : OwnB w w.heap.size (.slice none 0 0) [] := OwnB.nil _ _
  have HLV := hid h
  have HJ := hid hj
  have HLEN := hid (fun k hk => secs_len hok hd fr k hk)
  have HUP := hid (fun i hi => read_up hok hd (i := i) hi)
  obtain ⟨_, h1, _, _, _⟩ := hj.cells
  clear h hj
  go_enter Try.func75, Try.ntmps75
  go_wp2
  go_loopw [6, 7] (fun v i wr => ∃ (k : Nat) (a : Option Addr) (c : Nat), fr + k ≤ to ∧ 64 * k < n + 64 ∧ i = .int .i64 ((fr : Int) + (k : Int)) ∧ v = .slice a (64 * k) c ∧ Hid (OwnB wr w.heap.size (.slice a (64 * k) c) (secs st fr k)) ∧ Hid (Mod None w wr)) (fun _ i _ => fr + (to - fr) + 1 - (intOf i).toNat)
  case atStart => exact ⟨0, none, 0, by omega, by omega, by simp, rfl, OwnB.nil _ _, Mod.refl _ _⟩
  case round =>
    obtain ⟨k, a, c, hk, hk2, rfl, rfl, ho, hm⟩ := hrel
    by_cases hlt : 64 * k < n
    · have hlt' : ((64 * k : Nat) : Int) < (n : Int) := by omega
      obtain ⟨hj0, _, _, _, _⟩ := IsJ.cells (show IsJ wr j p fr to en ct from hm.out.blk HJ.out (fun h => h))
      obtain ⟨s, hs, hsl⟩ := HUP.out (fr + k) (by omega)
      have hrd := live_read (HLV.out.step hm.out) ((fr : Int) + (k : Int))
      rw [show (fr : Int) + (k : Int) = ((fr + k : Nat) : Int) by omega, hs] at hrd
      rw [show ((fr + k : Nat) : Int) = (fr : Int) + (k : Int) by omega] at hrd
      have HRD := hid (lread_old hrd hsl)
      have HS := hid (show secs st fr (k + 1) = secs st fr k ++ s by show secs st fr k ++ (st.read ((fr + k : Nat) : Int)).1 = _; rw [hs])
      have HSL := hid hsl
      have hls := HLEN.out k (by omega)
      have HLS := hid hls
      clear hrd hs hsl hls
      generalize secs st fr k = sk at *
      generalize h64 : 64 * k = k64 at *
      have H64 := hid h64
      clear h64
      go_wp2_with fail
      refine HRD.out.mono ?_
      rintro e w2 ⟨ra, rfl, hr2, hm2⟩
      have HR2 := hid hr2
      have HM2 := hid (hm.out.trans hm2)
      have HO2 := hid (ho.out.kept hm2 (fun _ _ h => h))
      clear hr2 hm2 HRD ho
      go_wp2_with (at_builtin; go_loud (refine wpList_append_b2 rfl (.tmp 32) (.tmp 33) rfl w.heap.size _ sk rfl HO2.out ra s 64 64 HSL.out.symm rfl HR2.out (by have := HLS.out; have := HSL.out; omega) HM2.out.size (sk ++ s) rfl (k64 + 64) (by rw [List.length_append, HLS.out, HSL.out]) None w HM2.out (Nat.le_refl _) ?_); intro va vcap w' HO HG)
      go_roundw
      case rel => exact ⟨k + 1, va, vcap, by have := H64.out; omega, by have := H64.out; omega, by congr 1, by rw [show 64 * (k + 1) = k64 + 64 by have := H64.out; omega], by show OwnB _ _ _ _; rw [HS.out, show 64 * (k + 1) = k64 + 64 by have := H64.out; omega]; exact HO.out, HG.out⟩
      case measure => simp [intOf]; omega
    · have hlt' : ¬ ((64 * k : Nat) : Int) < (n : Int) := by omega
      have hcap := ho.out.cap
      have hcm := ho.out.capm
      rw [HLEN.out k (by omega)] at hcap
      have hnc : (n : Int) ≤ (c : Int) := by omega
      have HKK := hid (show (n + 63) / 64 = k by omega)
      have HO := hid ho.out
      have hnk : n ≤ 64 * k := by omega
      clear ho
      generalize 64 * k = k64 at *
      go_wp2_with fail
      go_ret2
      obtain ⟨a', c', e, hrd⟩ := HO.out.rd
      injection e with e1 e2 e3
      subst e1
      refine ⟨a, c, rfl, ?_, by omega, by omega, hm.out⟩
      unfold area
      rw [HKK.out]
      exact rd_take hrd _
end Go.Proofs.Ytdhhpnfdnoaihaa

/-! R4 -/
/- A journal is read, by definition; a row of byte rows of the call's own. -/
namespace Go.Proofs.Ytdhhpnfdnoaihaa
open Go.RowKit

/-- the first frame's number of bytes, if it stands there -/
def jlen (b : List UInt8) : Int := i64 (beN (b.take 8))
def jsum (b : List UInt8) : Int := i64 (beN ((b.drop 8).take 8))
def jbody (b : List UInt8) (n : Nat) : List UInt8 := (b.drop 16).take n
def jfine (b : List UInt8) : Prop := 16 ≤ b.length ∧ 0 ≤ jlen b ∧ jlen b ≤ (b.length : Int) - 16 ∧ jsum b = ((csum (jbody b (jlen b).toNat)).toNat : Int)
instance (b : List UInt8) : Decidable (jfine b) := by unfold jfine; infer_instance
def jsplit : Nat → List UInt8 → Option (List (List UInt8))
  | _, [] => some []
  | 0, _ => none
  | f + 1, b => if jfine b then (jsplit f (b.drop (16 + (jlen b).toNat))).map (jbody b (jlen b).toNat :: ·) else none
def jopen (b : List UInt8) (ct : Nat) : Option (List (List UInt8)) :=
  match jsplit b.length b with
  | some ls => if ls.length = ct then some ls else none
  | none => none
theorem jsplit_step {f : Nat} {b : List UInt8} (h0 : 0 < b.length) (h : jfine b) : jsplit (f + 1) b = (jsplit f (b.drop (16 + (jlen b).toNat))).map (jbody b (jlen b).toNat :: ·) := by
  cases b with
  | nil => simp at h0
  | cons c b => rw [jsplit, if_pos h]; simp
theorem jsplit_bad {f : Nat} {b : List UInt8} (h0 : 0 < b.length) (h : ¬ jfine b) : jsplit f b = none := by
  cases b with
  | nil => simp at h0
  | cons c b => cases f with
    | zero => simp [jsplit]
    | succ f => rw [jsplit, if_neg h]; simp
theorem jsplit_nil (f : Nat) : jsplit f [] = some [] := by cases f <;> simp [jsplit]
/-- what is split of `A` when `k` bytes are done -/
def Split (A : List UInt8) (k : Nat) (done : List (List UInt8)) : Prop := ∃ f, A.length - k ≤ f ∧ k ≤ A.length ∧ done.length ≤ k ∧ jsplit A.length A = (jsplit f (A.drop k)).map (done ++ ·)
theorem Split.start (A : List UInt8) : Split A 0 [] := ⟨A.length, by omega, by omega, by simp, by simp⟩
theorem Split.step {A : List UInt8} {k : Nat} {done : List (List UInt8)} (h : Split A k done) (hk : k < A.length) (hf : jfine (A.drop k)) :
    Split A (k + (16 + (jlen (A.drop k)).toNat)) (done ++ [jbody (A.drop k) (jlen (A.drop k)).toNat]) := by
  obtain ⟨f, h1, h2, h3, h4⟩ := h
  have hl : (A.drop k).length = A.length - k := List.length_drop
  obtain ⟨g1, g2, g3, g4⟩ := hf
  rw [hl] at g1 g3
  obtain ⟨f', rfl⟩ : ∃ f', f = f' + 1 := ⟨f - 1, by omega⟩
  refine ⟨f', by omega, by omega, by simp; omega, ?_⟩
  rw [h4, jsplit_step (by omega) ⟨by omega, g2, by omega, g4⟩, List.drop_drop, Option.map_map]
  congr 1
  funext l
  simp
theorem Split.bad {A : List UInt8} {k : Nat} {done : List (List UInt8)} (h : Split A k done) (hk : k < A.length) (hf : ¬ jfine (A.drop k)) (ct : Nat) : jopen A ct = none := by
  obtain ⟨f, h1, h2, h3, h4⟩ := h
  unfold jopen
  rw [h4, jsplit_bad (by rw [List.length_drop]; omega) hf]; rfl
theorem Split.done {A : List UInt8} {done : List (List UInt8)} (h : Split A A.length done) (ct : Nat) : jopen A ct = if done.length = ct then some done else none := by
  obtain ⟨f, h1, h2, h3, h4⟩ := h
  unfold jopen
  rw [h4, List.drop_length, jsplit_nil]; simp
/-- a row of byte rows, all of them of blocks from `base` on -/
def LRow (w : World) (base : Nat) (v : Value) (ls : List (List UInt8)) : Prop :=
  ∃ vs : List Value, w.ownsRow base 27 1 v ls.length vs ∧ ∀ i, (h : i < ls.length) → ∃ a c, vs[i]? = some (.slice a ls[i].length c) ∧ OwnB w base (.slice a ls[i].length c) ls[i]
theorem LRow.nil (w : World) (base : Nat) : LRow w base (.slice none 0 0) [] := ⟨[], World.ownsRow_nil _ _ _ _, fun i h => absurd h (by simp)⟩
theorem ownsRow_kept {w w' : World} {base : Nat} {e size n : Nat} {v : Value} {xs : List Value} (h : w.ownsRow base e size v n xs) {S : Nat → Prop} (hm : Mod S w w') (hS : ∀ k, v.ownBlock = some k → ¬ S k) : w'.ownsRow base e size v n xs := by
  obtain ⟨h1, h2⟩ := h
  refine ⟨h1, ?_⟩
  rcases h2 with h2 | ⟨g, cap, cur, rfl, hb, hg, r⟩
  · exact .inl h2
  · refine .inr ⟨g, cap, cur, rfl, hb, ?_, r⟩
    rw [hm.block g (Array.getElem?_eq_some_iff.1 hg).1 (hS g rfl)]; exact hg
theorem LRow.kept {w w' : World} {base : Nat} {v : Value} {ls : List (List UInt8)} (h : LRow w base v ls) {S : Nat → Prop} (hm : Mod S w w') (hS : ∀ k, base ≤ k → ¬ S k) : LRow w' base v ls := by
  obtain ⟨vs, h1, h2⟩ := h
  refine ⟨vs, ownsRow_kept h1 hm (fun k hk => hS k (h1.lt k hk).1), fun i hi => ?_⟩
  obtain ⟨a, c, e, ho⟩ := h2 i hi
  exact ⟨a, c, e, ho.kept hm (fun k hk => hS k (ho.lt k hk).1)⟩
theorem LRow.step {w w' : World} {base : Nat} {v : Value} {ls : List (List UInt8)} (h : LRow w base v ls) (hm : Mod None w w') : LRow w' base v ls := h.kept hm (fun _ _ h => h)
theorem LRow.shape {w : World} {base : Nat} {v : Value} {ls : List (List UInt8)} (h : LRow w base v ls) : ∃ a c, v = .slice a ls.length c := by
  obtain ⟨vs, h1, _⟩ := h
  rcases h1.2 with ⟨rfl, h0⟩ | ⟨g, cap, cur, rfl, _⟩
  · exact ⟨none, 0, by rw [h0]⟩
  · exact ⟨_, cap, rfl⟩
theorem own_kind {w : World} {base base' : Nat} {v v' : Value} {e e' n n' size size' : Nat} {xs xs' : List Value} (h : w.ownsRow base e size v n xs) (h' : w.ownsRow base' e' size' v' n' xs') (he : e ≠ e') : ∀ k, v.ownBlock = some k → ¬ v'.ownBlock = some k := by
  intro k hk hk'
  rcases h.2 with ⟨rfl, _⟩ | ⟨g, cap, cur, rfl, _, hg, _⟩
  · simp [Value.ownBlock] at hk
  · rcases h'.2 with ⟨rfl, _⟩ | ⟨g', cap', cur', rfl, _, hg', _⟩
    · simp [Value.ownBlock] at hk'
    · have e1 : g = k := by simpa [Value.ownBlock] using hk
      have e2 : g' = k := by simpa [Value.ownBlock] using hk'
      subst e1; subst e2
      rw [hg] at hg'
      simp at hg'
      exact he hg'.2
/-- one more is laid behind -/
theorem LRow.snoc {w1 w' : World} {base : Nat} {v v' : Value} {ls : List (List UInt8)} {a : Option Addr} {c : Nat} {l : List UInt8} {vs : List Value}
    (h1 : w1.ownsRow base 27 1 v ls.length vs) (h2 : ∀ i, (h : i < ls.length) → ∃ a c, vs[i]? = some (.slice a ls[i].length c) ∧ OwnB w1 base (.slice a ls[i].length c) ls[i])
    (ho : OwnB w1 base (.slice a l.length c) l)
    (g2 : w'.ownsRow 0 27 1 v' (ls.length + 1) (vs ++ [.slice a l.length c])) (g3 : Mod (fun k => v.ownBlock = some k) w1 w')
    (g4 : ∀ g, v'.ownBlock = some g → v.ownBlock = some g ∨ (w1.heap.size ≤ g ∧ g < w'.heap.size)) (hb : base ≤ w1.heap.size) : LRow w' base v' (ls ++ [l]) := by
  have hb' : ∀ g, v'.ownBlock = some g → base ≤ g := fun g hg => by
    rcases g4 g hg with h | h
    · exact (h1.lt g h).1
    · omega
  have hl1 : vs.length = ls.length := by simpa using h1.1
  refine ⟨vs ++ [.slice a l.length c], ?_, fun i hi => ?_⟩
  · rw [List.length_append]
    refine ⟨g2.1, ?_⟩
    rcases g2.2 with h | ⟨g, cap, cur, rfl, _, r⟩
    · exact .inl h
    · exact .inr ⟨g, cap, cur, rfl, hb' g rfl, r⟩
  · by_cases hlt : i < ls.length
    · obtain ⟨a', c', e, ho'⟩ := h2 i hlt
      refine ⟨a', c', ?_, ?_⟩
      · rw [List.getElem?_append_left (by omega), List.getElem_append_left hlt]; exact e
      · rw [List.getElem_append_left hlt]
        exact ho'.kept g3 (fun k hk hk' => own_kind ho' h1 (by decide) k hk hk')
    · obtain rfl : i = ls.length := by simp at hi; omega
      refine ⟨a, c, ?_, ?_⟩
      · simp only [List.getElem_concat_length]; rw [List.getElem?_append_right (by omega), hl1]; simp
      · simp only [List.getElem_concat_length]
        exact ho.kept g3 (fun k hk hk' => own_kind ho h1 (by decide) k hk hk')
end Go.Proofs.Ytdhhpnfdnoaihaa

/-! K1 -/
/- A journal is opened with nothing in it. -/
namespace Go.Proofs.Ytdhhpnfdnoaihaa
open Go.RowKit

set_option maxRecDepth 100000 in
set_option maxHeartbeats 800000 in
theorem read0_any (w : World) (j p : Nat) (fr to en ct : Int) (hj : IsJ w j p fr to en ct) : Calls Try.prog 75 #[.pointer (some ⟨j, 0, none⟩), .int .i64 0] w fun e w' => e = .returned (.tuple #[.slice none 0 0, .int .i64 0]) ∧ w = w' := by
  obtain ⟨_, h1, _, _, _⟩ := hj.cells
  clear hj
  go_enter Try.func75, Try.ntmps75
  go_wp2
  refine wp_loop_rounds 1 ?_
  rw [rounds_succ]
  go_wp2
  go_ret2
  exact ⟨rfl, rfl⟩
def OPost (w0 w : World) (S : Nat → Prop) (p : Nat) (st : DSt) (to : Nat) (e : Ending) (w' : World) : Prop :=
  ∃ j, e = .returned (.tuple #[.pointer (some ⟨j, 0, none⟩), .slice none 0 0, .int .i64 0]) ∧ IsJ w' j p 0 to 0 0 ∧ w.heap.size ≤ j ∧ Mod None w w' ∧ Live w0 w' S p st
set_option maxRecDepth 100000 in
set_option maxHeartbeats 1600000 in
theorem open0_any (w0 w : World) (S : Nat → Prop) (p : Nat) (st : DSt) (h : Live w0 w S p st) (to : Nat) (ht : to ≤ st.last.length) (hd : st.down = false) :
    Calls Try.prog 44 #[.pointer (some ⟨p, 0, none⟩), .int .i64 0, .int .i64 (to : Int), .int .i64 0, .int .i64 0] w (OPost w0 w S p st to) := by
  have hmost := h.ok.most
  have hto : ¬ (st.last.length : Int) < (to : Int) := by omega
  have hto0 : ¬ (to : Int) < 0 := by omega
  have hm1 : Mod None w (w.alloc (.cells #[.pointer (some ⟨p, 0, none⟩), .int .i64 0, .int .i64 (to : Int), .int .i64 0, .int .i64 0] 118)) := (Mod.refl _ _).alloc _
  obtain ⟨W, hW⟩ : ∃ W, W = w.alloc (.cells #[.pointer (some ⟨p, 0, none⟩), .int .i64 0, .int .i64 (to : Int), .int .i64 0, .int .i64 0] 118) := ⟨_, rfl⟩
  rw [← hW] at hm1
  have hj : IsJ W w.heap.size p 0 to 0 0 := by rw [hW]; exact Blk.new w 118 _
  have HS := hid (live_size h)
  have HR := hid (room_any hj (by omega))
  have HRM := hid (show ¬ (((to : Int) - 0) * 64) < 0 by omega)
  have HLV := hid (h.step hm1)
  have HJ := hid hj
  have HM := hid hm1
  have HD := hid hd
  clear hm1 hj h hd
  generalize hln : st.last.length = ln at *
  generalize hrm : (((to : Int) - 0) * 64) = rm at *
  have hrm0 : ¬ rm < 0 := HRM.out
  clear hrm
  go_enter Try.func44, Try.ntmps44
  go_wp2_with fail
  refine HS.out.mono ?_
  rintro e w1 ⟨rfl, rfl⟩
  go_wp2_with fail
  rw [← hW]
  clear hW
  refine HR.out.mono ?_
  rintro e w1 ⟨rfl, n, rfl⟩
  go_wp2_with fail
  have hdn := live_down (HLV.out.step (mod_drewN W n))
  rw [HD.out] at hdn
  refine hdn.mono ?_
  rintro e w1 ⟨rfl, rfl⟩
  go_wp2_with fail
  refine (read0_any (W.drewN n) w.heap.size p 0 to 0 0 HJ.out).mono ?_
  rintro e w1 ⟨rfl, rfl⟩
  go_wp2_with fail
  refine wp_loop_rounds 1 ?_
  rw [rounds_succ]
  go_wp2_with fail
  go_ret3
  exact ⟨_, rfl, HJ.out, Nat.le_refl _, HM.out.trans (mod_drewN W n), HLV.out.step (mod_drewN W n)⟩
end Go.Proofs.Ytdhhpnfdnoaihaa

/-! K2 -/
/- awake of layer 5. -/
namespace Go.Proofs.Ytdhhpnfdnoaihaa
open Go.RowKit

def ja0 : DSt := DSt.new 2
def ja1 : DSt := (ja0.append 0 0 [97, 98, 99]).1
def z93 : List UInt8 := List.replicate 93 0
def ja2 : DSt := (ja1.append 0 19 z93).1
theorem ja0e : (ja0.append 0 0 [97, 98, 99]).2 = 0 := by decide +kernel
theorem ja1r : (ja1.read 0).2 = 0 ∧ (ja1.read 0).1.length = 64 ∧ (ja1.read 0).1.take 19 = [0, 0, 0, 0, 0, 0, 0, 3, 0, 0, 0, 0, 0x35, 0x24, 0x41, 0xc2, 97, 98, 99] := by decide +kernel
theorem ja1d : ja1.down = false ∧ ja1.waits.length = 0 ∧ ja1.last.length = 2 := by decide +kernel
theorem ja1e : (ja1.append 0 19 z93).2 = 0 := by decide +kernel
def f19 : List UInt8 := [0, 0, 0, 0, 0, 0, 0, 3, 0, 0, 0, 0, 0x35, 0x24, 0x41, 0xc2, 97, 98, 99]
theorem lit19 (w : World) : (convert 27 9 (.slice (some ⟨w.heap.size, 0, none⟩) 19 19)).run Try.prog (w.alloc (.cells #[.int .u8 0, .int .u8 0, .int .u8 0, .int .u8 0, .int .u8 0, .int .u8 0, .int .u8 0, .int .u8 3, .int .u8 0, .int .u8 0, .int .u8 0, .int .u8 0, .int .u8 53, .int .u8 36, .int .u8 65, .int .u8 194, .int .u8 97, .int .u8 98, .int .u8 99] 5)) = .ok (Str f19) (w.alloc (.cells #[.int .u8 0, .int .u8 0, .int .u8 0, .int .u8 0, .int .u8 0, .int .u8 0, .int .u8 0, .int .u8 3, .int .u8 0, .int .u8 0, .int .u8 0, .int .u8 0, .int .u8 53, .int .u8 36, .int .u8 65, .int .u8 194, .int .u8 97, .int .u8 98, .int .u8 99] 5)) :=
  str_rd (rd_lit w _ f19 rfl (0, 0) _ rfl) 19 19 rfl
theorem lit19d (w : World) : (convert 27 9 (.slice (some ⟨w.heap.size, 0, none⟩) 19 19)).run Try.prog (w.alloc (.cells #[.int .u8 0, .int .u8 0, .int .u8 0, .int .u8 0, .int .u8 0, .int .u8 0, .int .u8 0, .int .u8 3, .int .u8 0, .int .u8 0, .int .u8 0, .int .u8 0, .int .u8 53, .int .u8 36, .int .u8 65, .int .u8 194, .int .u8 97, .int .u8 98, .int .u8 99] 5)).drew = .ok (Str f19) (w.alloc (.cells #[.int .u8 0, .int .u8 0, .int .u8 0, .int .u8 0, .int .u8 0, .int .u8 0, .int .u8 0, .int .u8 3, .int .u8 0, .int .u8 0, .int .u8 0, .int .u8 0, .int .u8 53, .int .u8 36, .int .u8 65, .int .u8 194, .int .u8 97, .int .u8 98, .int .u8 99] 5)).drew := lit19 w.drew
theorem zeros_at (w : World) (n : Nat) (hn : n ≤ 140737488355328) : ∃ w', (Instr.makeSlice 27 (.int .i64 (n : Int)) (.int .i64 (n : Int))).run Try.prog w = .ok (.slice (some ⟨w.heap.size, 0, none⟩) n n) w' ∧ Rd w' (some ⟨w.heap.size, 0, none⟩) (List.replicate n 0) ∧ Mod None w w' := by
  obtain ⟨i, hi, hz, hsz, hby⟩ := info_parts d_info5
  obtain ⟨w', h1, h2, h3⟩ := run_make_full (P := Try.prog) w 0 27 5 i (.int .u8 0) 1 und27 hi hz hsz .i64 .i64 n (by rw [hby]; omega) (by unfold maxLen; omega) (Nat.zero_le _)
  rw [made_bytes] at h2
  exact ⟨w', h1, (made_blk h2).rdv 0 (fun i _ => by rw [Nat.zero_add]), grown_mod h3 (fun _ h => by cases h)⟩
/-- an Append that goes through -/
theorem append_ok {w0 w : World} {S : Nat → Prop} {p j : Nat} {st : DSt} (h : Live w0 w S p st) {fr to en ct : Nat} (hj : IsJ w j p fr to en ct) (hjS : ¬ S j) (hj0 : w0.heap.size ≤ j) (a : Option Addr) (c n : Nat) (b : List UInt8) (hn : n = b.length) (hr : Rd w a b) 
    (hf : fr ≤ to ∧ to ≤ st.last.length) (hl : b.length ≤ 1048576) (hroom : en + b.length + 16 ≤ (to - fr) * 64) (hen : en ≤ 4194304) (hctb : ct ≤ 100000000) (hdn : st.down = false) (hws : st.waits.length ≤ 2990000000000) (hok : (st.append fr en b).2 = 0) :
    Calls Try.prog 47 #[.pointer (some ⟨j, 0, none⟩), .slice a n c] w fun e w' => ∃ S', e = .returned (.int .i64 0) ∧ Live w0 w' S' p (st.append fr en b).1 ∧ IsJ w' j p fr to ((en + b.length + 16 : Nat) : Int) ((ct + 1 : Nat) : Int) ∧ Mod (fun x => S x ∨ x = j) w w' ∧ (∀ x, x < w.heap.size → S' x → S x) := by
  subst hn
  refine (append_go w0 w S p j st h fr to en ct hj hjS hj0 a c b hr hf hl hroom hen hctb hdn hws).mono ?_
  rintro e w' ⟨S', rfl, h1, h2, h3, h4⟩
  rw [hok] at *
  rw [if_pos rfl, if_pos rfl] at h2
  exact ⟨S', rfl, h1, h2, h3, h4⟩
set_option maxRecDepth 100000 in
set_option maxHeartbeats 1600000 in
theorem awake5_any (w : World) : Calls Try.prog 45 #[] w fun e w' => e = .returned (.bool true) ∧ Mod None w w' := by
  have kc := bytes_const
  go_enter Try.func45, Try.ntmps45
  go_wp2_with fail
  refine (live_new w w (Mod.refl _ _) 2 2 (by omega)).mono ?_
  rintro e w1 ⟨p, S, rfl, hl, _, _⟩
  have HL : Hid (Live w w1 S p ja0) := hid hl
  clear hl
  go_wp2_with fail
  refine (open0_any w w1 S p ja0 HL.out 2 (by decide) rfl).mono ?_
  rintro e w2 ⟨j, rfl, hj, hjn, hm, hl⟩
  have HJ := hid hj
  have HJ0 := hid hjn
  have HL2 := hid hl
  have HJS := hid (show ¬ S j from fun hs => by have := HL.out.lt j hs; omega)
  have HJW := hid (show w.heap.size ≤ j from Nat.le_trans HL.out.2.1.size hjn)
  clear hj hjn hm hl HL
  go_wp2_with fail
  have HWt := hid (show ja0.waits.length ≤ 2990000000000 ∧ ja1.waits.length ≤ 2990000000000 by decide +kernel)
  refine (append_ok (HL2.out.alloc _) (fr := 0) (to := 2) (en := 0) (ct := 0) (Blk.alloc HJ.out _) HJS.out HJW.out _ _ 3 [97, 98, 99] rfl (rd_lit _ _ _ rfl _ _ rfl) (by decide) (by decide) (by decide) (by decide) (by decide) rfl HWt.out.1 ja0e).mono ?_
  rintro e w3 ⟨S3, rfl, hl, hj, hm, hS⟩
  have HL3 : Hid (Live w w3 S3 p ja1) := hid hl
  have HJ3 : Hid (IsJ w3 j p 0 2 19 1) := hid hj
  have HJS3 := hid (show ¬ S3 j from fun hs => HJS.out (hS j (Nat.lt_trans HJ.out.lt (by simp)) hs))
  clear hl hj hm hS HL2 HJ
  go_wp2_with fail
  refine (end_any HJ3.out).mono ?_
  rintro e w4 ⟨rfl, rfl⟩
  go_wp2_with fail
  refine (count_any HJ3.out).mono ?_
  rintro e w4 ⟨rfl, rfl⟩
  go_wp2_with fail
  refine (live_read HL3.out 0).mono ?_
  rintro e w5 ⟨a5, rfl, ht, _, hl, hm⟩
  rw [ja1r.1, ja1r.2.1]
  have hs5 := str_rd (ht.rd.take 19) 19 64 (by rw [ja1r.2.2]; rfl)
  rw [ja1r.2.2] at hs5
  have HL5 : Hid (Live w w5 S3 p ja1) := hid hl
  have HJ5 : Hid (IsJ w5 j p 0 2 19 1) := hid (hm.blk HJ3.out (fun h => h))
  have HK5 := hid (fun w' (hm : Mod None w5 w') => str_rd (hm.rd (ht.rd.take 19) (fun _ _ h => h)) 19 64 (by rw [ja1r.2.2]; rfl))
  rw [ja1r.2.2] at HK5
  have HCV := hid lit19d
  clear hl hm ht HL3 HJ3
  unfold Str at hs5 HK5 HCV
  rw [show (⟨[0, 0, 0, 0, 0, 0, 0, 3, 0, 0, 0, 0, 0x35, 0x24, 0x41, 0xc2, 97, 98, 99].toArray⟩ : ByteArray) = ⟨f19.toArray⟩ from rfl] at HK5
  clear hs5
  generalize (⟨f19.toArray⟩ : ByteArray) = ss at *
  go_wp2_with fail
  refine wp_region_held_drew (S := fun w' => (convert 27 9 (.slice a5 19 64)).run Try.prog w' = .ok (.string ss) w') (by kernel_rfl) ?_ (fun hHeld => ?_)
  · first | exact HK5.out _ ((Mod.refl None w5).drew) | exact HK5.out _ (((Mod.refl None w5).drew).alloc _)
  refine wpAnyH_take (i := 0) (oi := { dst := some 48, op := Op.move (Operand.tmp 5), type := 27, pos := "law.go:27", after := #[], guard := none }) (v := ?vo1_0) rfl (by kernel_rfl) (by kernel_rfl) (by kernel_rfl) (fun _ _ _ h => h) (Or.inl ⟨by rfl, ?yo1_0⟩) (by assumption) ?ro1_0
  case yo1_0 => (intro w hSw; (try dsimp only at hSw); go_simp; (try with_reducible rfl))
  try simp only [Act.put, List.setIfInBounds_toArray, List.set_cons_zero, List.set_cons_succ]
  refine wpAnyH_take (i := 1) (oi := { dst := some 49, op := Op.slice 27 (Operand.tmp 48) none (some (Operand.const (Value.int IntKind.i64 19))) none, type := 27, pos := "law.go:27", after := #[{ on := 0, ground := Ground.data }], guard := none }) (v := ?vo2_1) rfl (by kernel_rfl) (by kernel_rfl) (by kernel_rfl) (fun _ _ _ h => h) (Or.inl ⟨by rfl, ?yo2_1⟩) (by assumption) ?ro2_1
  case yo2_1 => (intro w hSw; (try dsimp only at hSw); go_simp; (try with_reducible rfl))
  try simp only [Act.put, List.setIfInBounds_toArray, List.set_cons_zero, List.set_cons_succ]
  refine wpAnyH_take (i := 2) (oi := { dst := some 50, op := Op.convert 27 9 (Operand.tmp 49), type := 9, pos := "law.go:27", after := #[{ on := 1, ground := Ground.data }], guard := none }) (v := ?vo3_2) rfl (by kernel_rfl) (by kernel_rfl) (by kernel_rfl) (fun _ _ _ h => h) (Or.inl ⟨by rfl, ?yo3_2⟩) (by assumption) ?ro3_2
  case yo3_2 => (intro w hSw; (try dsimp only at hSw); go_simp; (try with_reducible rfl))
  try simp only [Act.put, List.setIfInBounds_toArray, List.set_cons_zero, List.set_cons_succ]
  refine wpAnyH_ready (rs := [3]) (by kernel_rfl) (by simp) ?_
  refine AllReadyH.cons (o := { dst := some 51, op := Op.buildSlice 27 19 #[(0, Operand.const (Value.int IntKind.u8 0)), (1, Operand.const (Value.int IntKind.u8 0)), (2, Operand.const (Value.int IntKind.u8 0)), (3, Operand.const (Value.int IntKind.u8 0)), (4, Operand.const (Value.int IntKind.u8 0)), (5, Operand.const (Value.int IntKind.u8 0)), (6, Operand.const (Value.int IntKind.u8 0)), (7, Operand.const (Value.int IntKind.u8 3)), (8, Operand.const (Value.int IntKind.u8 0)), (9, Operand.const (Value.int IntKind.u8 0)), (10, Operand.const (Value.int IntKind.u8 0)), (11, Operand.const (Value.int IntKind.u8 0)), (12, Operand.const (Value.int IntKind.u8 53)), (13, Operand.const (Value.int IntKind.u8 36)), (14, Operand.const (Value.int IntKind.u8 65)), (15, Operand.const (Value.int IntKind.u8 194)), (16, Operand.const (Value.int IntKind.u8 97)), (17, Operand.const (Value.int IntKind.u8 98)), (18, Operand.const (Value.int IntKind.u8 99))], type := 27, pos := "law.go:27", after := #[], guard := none }) rfl (fun K hK => ?_) AllReadyH.nil
  go_simp
  refine hK.out _ _ ?_ (fun hHeld => ?_)
  · first | exact HK5.out _ ((Mod.refl None w5).drew) | exact HK5.out _ (((Mod.refl None w5).drew).alloc _)
  clear hK K
  try simp only [Act.put, List.setIfInBounds_toArray, List.set_cons_zero, List.set_cons_succ]
  refine wpAnyH_ready (rs := [4]) (by kernel_rfl) (by simp) ?_
  refine AllReadyH.cons (o := { dst := some 52, op := Op.convert 27 9 (Operand.tmp 51), type := 9, pos := "law.go:27", after := #[{ on := 3, ground := Ground.data }], guard := none }) rfl (fun K hK => ?_) AllReadyH.nil
  have hcv := HCV.out w5; go_simp
  refine hK.out _ _ ?_ (fun hHeld => ?_)
  · first | exact HK5.out _ ((Mod.refl None w5).drew) | exact HK5.out _ (((Mod.refl None w5).drew).alloc _)
  clear hK K
  try simp only [Act.put, List.setIfInBounds_toArray, List.set_cons_zero, List.set_cons_succ]
  refine wpAnyH_take (i := 5) (oi := { dst := some 53, op := Op.binOp BinOp.eql 9 (Operand.tmp 50) (Operand.tmp 52) 9, type := 4, pos := "law.go:27", after := #[{ on := 2, ground := Ground.data }, { on := 4, ground := Ground.data }], guard := none }) (v := ?vo4_5) rfl (by kernel_rfl) (by kernel_rfl) (by kernel_rfl) (fun _ _ _ h => h) (Or.inl ⟨by rfl, ?yo4_5⟩) (by assumption) ?ro4_5
  case yo4_5 => (intro w hSw; (try dsimp only at hSw); go_simp; (try with_reducible rfl))
  try simp only [Act.put, List.setIfInBounds_toArray, List.set_cons_zero, List.set_cons_succ]
  refine wpAnyH_take (i := 6) (oi := { dst := some 7, op := Op.assign (Operand.tmp 53), type := 4, pos := "law.go:27", after := #[{ on := 5, ground := Ground.data }, { on := 0, ground := Ground.phase }, { on := 1, ground := Ground.phase }, { on := 2, ground := Ground.phase }, { on := 3, ground := Ground.phase }, { on := 4, ground := Ground.phase }, { on := 5, ground := Ground.phase }], guard := none }) (v := ?vo5_6) rfl (by kernel_rfl) (by kernel_rfl) (by kernel_rfl) (fun _ _ _ h => h) (Or.inl ⟨by rfl, ?yo5_6⟩) (by assumption) ?ro5_6
  case yo5_6 => (intro w hSw; (try dsimp only at hSw); go_simp; (try with_reducible rfl))
  try simp only [Act.put, List.setIfInBounds_toArray, List.set_cons_zero, List.set_cons_succ]
  refine wpAnyH_done (by kernel_rfl) ?_ _
  clear HK5 HCV
  have hm6 : Mod None w5 (w5.alloc (.cells #[.int .u8 0, .int .u8 0, .int .u8 0, .int .u8 0, .int .u8 0, .int .u8 0, .int .u8 0, .int .u8 3, .int .u8 0, .int .u8 0, .int .u8 0, .int .u8 0, .int .u8 53, .int .u8 36, .int .u8 65, .int .u8 194, .int .u8 97, .int .u8 98, .int .u8 99] 5)).drew := ((Mod.refl None w5).alloc _).drew
  have HL6 := hid (HL5.out.step hm6)
  have HJ6 := hid (show IsJ _ j p 0 2 19 1 from hm6.blk HJ5.out (fun h => h))
  clear hm6 HL5 HJ5
  generalize (w5.alloc (.cells #[.int .u8 0, .int .u8 0, .int .u8 0, .int .u8 0, .int .u8 0, .int .u8 0, .int .u8 0, .int .u8 3, .int .u8 0, .int .u8 0, .int .u8 0, .int .u8 0, .int .u8 53, .int .u8 36, .int .u8 65, .int .u8 194, .int .u8 97, .int .u8 98, .int .u8 99] 5)).drew = w6 at *
  obtain ⟨w7, hmk0, hrd7, hm7⟩ := zeros_at w6 94 (by omega)
  have hmk : (Instr.makeSlice 27 (.int .i64 94) (.int .i64 94)).run Try.prog w6 = .ok (.slice (some ⟨w6.heap.size, 0, none⟩) 94 94) w7 := hmk0
  have HL7 := hid (HL6.out.step hm7)
  have HJ7 := hid (show IsJ w7 j p 0 2 19 1 from hm7.blk HJ6.out (fun h => h))
  clear hrd7 hm7 HL6 HJ6 hmk0
  go_wp2_with fail
  refine (append_full w7 j p 0 2 19 1 HJ7.out _ 94 94 (by omega) (by omega) (by omega) (by omega)).mono ?_
  rintro e w8 ⟨rfl, hm8⟩
  have HL8 := hid (HL7.out.step hm8)
  have HJ8 := hid (show IsJ w8 j p 0 2 19 1 from hm8.blk HJ7.out (fun h => h))
  obtain ⟨w9, hmk90, hrd9, hm9⟩ := zeros_at w8 93 (by omega)
  have hmk9 : (Instr.makeSlice 27 (.int .i64 93) (.int .i64 93)).run Try.prog w8 = .ok (.slice (some ⟨w8.heap.size, 0, none⟩) 93 93) w9 := hmk90
  have HL9 := hid (HL8.out.step hm9)
  have HJ9 := hid (show IsJ w9 j p 0 2 (19 : Nat) (1 : Nat) from hm9.blk HJ8.out (fun h => h))
  have HR9 := hid hrd9
  clear hmk hmk90 hrd9 hm8 hm9 HL7 HJ7 HL8 HJ8
  go_wp2_with fail
  refine (append_ok HL9.out (fr := 0) (to := 2) (en := 19) (ct := 1) HJ9.out HJS3.out HJW.out _ 93 93 z93 rfl HR9.out (by rw [ja1d.2.2]; decide) (by decide) (by decide) (by decide) (by decide) ja1d.1 HWt.out.2 ja1e).mono ?_
  rintro e w10 ⟨S10, rfl, hl, hj, _, _⟩
  have HL10 := hid hl
  have HJ10 : Hid (IsJ w10 j p 0 2 128 2) := hid hj
  clear hl hj hmk9
  go_wp2_with fail
  refine (end_any HJ10.out).mono ?_
  rintro e w11 ⟨rfl, rfl⟩
  go_wp2_with fail
  go_ret
  exact ⟨by simp, HL10.out.2.1⟩
end Go.Proofs.Ytdhhpnfdnoaihaa

/-! P1 -/
/- What a disk keeps: plain laws. -/
namespace Go.Proofs.Ytdhhpnfdnoaihaa

structure Lasts (d : List UInt8) (k : Nat) (st : DSt) : Prop where
  len : st.last.length = 8
  at7 : st.last[7]? = some d
  off : ∀ x ∈ st.waits, x.1 ≠ 7
  few : st.waits.length ≤ k
theorem setAll_off (x : List (Nat × List UInt8)) : ∀ (l : List (List UInt8)), (∀ y ∈ x, y.1 ≠ 7) → (setAll l x)[7]? = l[7]? := by
  induction x with
  | nil => intro l _; rfl
  | cons y x ih =>
    intro l h
    show (setAll (l.set y.1 y.2) x)[7]? = _
    rw [ih _ (fun z hz => h z (by simp [hz])), List.getElem?_set_ne (h y (by simp))]
theorem Lasts.settle {d : List UInt8} {k : Nat} {st : DSt} (h : Lasts d k st) (n : Nat) : Lasts d k (st.settle n) where
  len := by show (setAll _ _).length = 8; rw [setAll_length]; exact h.len
  at7 := by show (setAll _ _)[7]? = _; rw [setAll_off _ _ (fun y hy => h.off y (List.mem_of_mem_take hy))]; exact h.at7
  off := h.off
  few := h.few
theorem Lasts.changed {d : List UInt8} {k : Nat} {st : DSt} (h : Lasts d k st) : Lasts d k st.changed := by
  unfold DSt.changed
  split
  · exact ⟨h.len, h.at7, h.off, h.few⟩
  · exact h
theorem Lasts.mono {d : List UInt8} {k k' : Nat} {st : DSt} (h : Lasts d k st) (hk : k ≤ k') : Lasts d k' st := ⟨h.len, h.at7, h.off, Nat.le_trans h.few hk⟩
theorem Lasts.write {d : List UInt8} {k : Nat} {st : DSt} (h : Lasts d k st) {i : Int} (hi : i ≠ 7) (x : List UInt8) : Lasts d (k + 1) (st.write i x).1 := by
  unfold DSt.write
  split
  · rename_i hm
    have hr := may_range hm
    split
    · exact h.mono (by omega)
    · refine Lasts.changed ⟨h.len, h.at7, ?_, ?_⟩
      · intro y hy
        rcases List.mem_append.1 hy with hy | hy
        · exact h.off y hy
        · obtain rfl := List.mem_singleton.1 hy
          show i.toNat ≠ 7; omega
      · have := h.few
        simp [DSt.put]; omega
  · exact h.mono (by omega)
theorem Lasts.flush {d : List UInt8} {k : Nat} {st : DSt} (h : Lasts d k st) : Lasts d k st.flush.1 := by
  unfold DSt.flush
  split
  · exact h
  · have := h.settle st.waits.length
    exact Lasts.changed ⟨this.len, this.at7, (fun x hx => by cases hx), by simp⟩
theorem Lasts.arm {d : List UInt8} {k : Nat} {st : DSt} (h : Lasts d k st) (n : Int) : Lasts d k (st.arm' n) := by
  unfold DSt.arm'
  split
  · exact h
  · exact ⟨h.len, h.at7, h.off, h.few⟩
theorem Lasts.crash {d : List UInt8} {k : Nat} {st : DSt} (h : Lasts d k st) (a b : Int) : Lasts d k (st.crash a b) := by
  unfold DSt.crash DSt.crashed
  have hs := h.settle (clampN a st.waits.length)
  split
  · rename_i x hx
    have hm : x ∈ st.waits := (List.mem_of_getElem? hx)
    refine ⟨?_, ?_, (fun x hx => by cases hx), by simp⟩
    · show (List.set _ _ _).length = 8
      rw [List.length_set]; exact hs.len
    · show (List.set _ _ _)[7]? = _
      rw [List.getElem?_set_ne (h.off x hm)]; exact hs.at7
  · exact ⟨hs.len, hs.at7, (fun x hx => by cases hx), by simp⟩
theorem Lasts.start {d : List UInt8} (hd : d.length ≤ 64) : Lasts (pad64 d) 0 (((DSt.new 8).write 7 d).1).flush.1 := by
  have hm : (DSt.new 8).may 7 = 0 := by decide
  have h1 : ((DSt.new 8).write 7 d).1 = ((DSt.new 8).put 7 (pad64 d)) := by
    unfold DSt.write
    rw [if_pos hm, if_neg (by omega)]
    rfl
  rw [h1]
  refine ⟨?_, ?_, ?_, ?_⟩
  · show (setAll _ _).length = 8
    rw [setAll_length]; rfl
  · rfl
  · intro x hx; cases hx
  · exact Nat.le_refl _
theorem Lasts.told {d : List UInt8} {k : Nat} {st : DSt} (h : Lasts d k st) : ((st.crash 0 0).read 7) = (d, 0) := by
  have hc := h.crash 0 0
  have hd : (st.crash 0 0).down = false := rfl
  have hw : (st.crash 0 0).waits = [] := rfl
  generalize st.crash 0 0 = s at *
  have hm : s.may 7 = 0 := by unfold DSt.may; rw [hd, hc.len]; rfl
  unfold DSt.read
  rw [if_pos hm, hw]
  show (s.last.getD 7 [], (0 : Int)) = _
  rw [List.getD_eq_getElem?_getD, hc.at7]; rfl
end Go.Proofs.Ytdhhpnfdnoaihaa

/-! P2 -/
/- The plain law of a journal's Append: on a disk that is not armed what fits goes through. -/
namespace Go.Proofs.Ytdhhpnfdnoaihaa
open Go.RowKit

/-- not down, not armed -/
structure Calm (st : DSt) : Prop where
  down : st.down = false
  armed : st.armed < 0
theorem Calm.changed {st : DSt} (h : Calm st) : st.changed = st := by unfold DSt.changed; rw [if_neg (by have := h.armed; omega)]
theorem Calm.write {st : DSt} (h : Calm st) (i : Nat) (d : List UInt8) (hi : i < st.last.length) (hd : d.length ≤ 64) : st.write (i : Int) d = (st.put i (pad64 d), 0) := by
  have hm : st.may (i : Int) = 0 := by
    unfold DSt.may
    rw [h.down]
    simp
    omega
  have hc : Calm (st.put i (pad64 d)) := ⟨h.down, h.armed⟩
  unfold DSt.write
  rw [if_pos hm, if_neg (by omega), Int.toNat_natCast, hc.changed]
/-- what a run of writes lays into the buffer -/
def laidL : Nat → Nat → List UInt8 → List (Nat × List UInt8)
  | 0, _, _ => []
  | n + 1, i, f => if f = [] then [] else (i, pad64 (f.take 64)) :: laidL n (i + 1) (f.drop 64)
theorem wrs_calm : ∀ (n : Nat) (st : DSt) (i : Nat) (f : List UInt8), Calm st → i * 64 + f.length ≤ 64 * st.last.length → wrs n st i f = ({ st with waits := st.waits ++ laidL n i f }, 0)
  | 0, st, i, f, _, _ => by simp [wrs, laidL]
  | n + 1, st, i, f, h, hr => by
    unfold wrs laidL
    by_cases hf : f = []
    · rw [if_pos hf, if_pos hf]; simp
    · rw [if_neg hf, if_neg hf]
      have hpos : 0 < f.length := by
        cases f with
        | nil => exact absurd rfl hf
        | cons _ _ => simp
      have hw := h.write i (f.take 64) (by omega) (by rw [List.length_take]; omega)
      rw [hw, if_pos rfl, wrs_calm n (st.put i (pad64 (f.take 64))) (i + 1) (f.drop 64) ⟨h.down, h.armed⟩ (by
        show (i + 1) * 64 + (f.drop 64).length ≤ 64 * st.last.length
        rw [List.length_drop]
        by_cases h64 : f.length ≤ 64
        · have : i < st.last.length := by omega
          omega
        · omega)]
      simp [DSt.put]
theorem jpart_len (st : DSt) (fr en : Nat) : (jpart st fr en).length ≤ en % 64 := by
  unfold jpart
  split
  · rw [List.length_take]; omega
  · simp
theorem jall_len (st : DSt) (fr en : Nat) (b : List UInt8) : (jall st fr en b).length ≤ en % 64 + b.length + 16 := by
  unfold jall
  rw [List.length_append, frameL_len]
  have := jpart_len st fr en
  omega
/-- what stands behind an Append that fits -/
theorem append_calm {st : DSt} (h : Calm st) (fr to en : Nat) (b : List UInt8) (hf : fr ≤ to ∧ to ≤ st.last.length) (hroom : en + b.length + 16 ≤ (to - fr) * 64) :
    st.append fr en b = ({ last := setAll st.last (st.waits ++ laidL ((jall st fr en b).length + 1) (fr + en / 64) (jall st fr en b)), waits := [], armed := st.armed, down := false }, 0) := by
  have hl := jall_len st fr en b
  have hw := wrs_calm ((jall st fr en b).length + 1) st (fr + en / 64) (jall st fr en b) h (by omega)
  unfold DSt.append
  rw [hw, if_pos rfl]
  unfold DSt.flush
  rw [if_neg (by show ¬ st.down = true; rw [h.down]; simp)]
  have hc : Calm ({ (DSt.settle { st with waits := st.waits ++ laidL ((jall st fr en b).length + 1) (fr + en / 64) (jall st fr en b) } (st.waits ++ laidL ((jall st fr en b).length + 1) (fr + en / 64) (jall st fr en b)).length) with waits := [] } : DSt) := ⟨h.down, h.armed⟩
  rw [hc.changed]
  unfold DSt.settle
  rw [List.take_length]
  simp only [h.down]
end Go.Proofs.Ytdhhpnfdnoaihaa

/-! P3 -/
/- The plain law of a journal: what is appended is read. -/
namespace Go.Proofs.Ytdhhpnfdnoaihaa
open Go.RowKit

/-- the bytes from a sector on -/
def flat (last : List (List UInt8)) (fr : Nat) : List UInt8 := (last.drop fr).flatten
theorem flat_sum : ∀ (l : List (List UInt8)), (∀ s ∈ l, s.length = 64) → l.flatten.length = 64 * l.length
  | [], _ => rfl
  | s :: l, h => by
    rw [List.flatten_cons, List.length_append, h s (by simp), flat_sum l (fun x hx => h x (by simp [hx])), List.length_cons]; omega
theorem flat_take : ∀ (k : Nat) (l : List (List UInt8)), (∀ s ∈ l, s.length = 64) → l.flatten.take (64 * k) = (l.take k).flatten
  | 0, l, _ => by simp
  | k + 1, [], _ => by simp
  | k + 1, s :: l, h => by
    have hs := h s (by simp)
    rw [List.flatten_cons, List.take_succ_cons, List.flatten_cons, List.take_append, hs, List.take_of_length_le (by omega), show 64 * (k + 1) - 64 = 64 * k by omega,
      flat_take k l (fun x hx => h x (by simp [hx]))]
theorem flat_drop : ∀ (k : Nat) (l : List (List UInt8)), (∀ s ∈ l, s.length = 64) → l.flatten.drop (64 * k) = (l.drop k).flatten
  | 0, l, _ => by simp
  | k + 1, [], _ => by simp
  | k + 1, s :: l, h => by
    have hs := h s (by simp)
    rw [List.flatten_cons, List.drop_succ_cons, List.drop_append, hs, List.drop_eq_nil_of_le (by omega), show 64 * (k + 1) - 64 = 64 * k by omega, List.nil_append,
      flat_drop k l (fun x hx => h x (by simp [hx]))]
theorem sec_set {l : List (List UInt8)} (h : ∀ s ∈ l, s.length = 64) (i : Nat) {d : List UInt8} (hd : d.length = 64) : ∀ s ∈ l.set i d, s.length = 64 := fun s hs => by
  rcases List.mem_or_eq_of_mem_set hs with hs | rfl
  · exact h s hs
  · exact hd
theorem flat_set_take {l : List (List UInt8)} (h : ∀ s ∈ l, s.length = 64) (fr q : Nat) (hq : fr + q < l.length) {d : List UInt8} (hd : d.length = 64) :
    (flat (l.set (fr + q) d) fr).take (64 * (q + 1)) = (flat l fr).take (64 * q) ++ d := by
  unfold flat
  have hs : ∀ s ∈ l.drop fr, s.length = 64 := fun s hs => h s (List.mem_of_mem_drop hs)
  rw [List.drop_set, if_neg (by omega), show fr + q - fr = q by omega, flat_take _ _ (sec_set hs q hd), flat_take _ _ hs,
    List.take_succ_eq_append_getElem (by simp; omega), List.flatten_append, List.take_set, List.set_eq_of_length_le (by rw [List.length_take]; omega)]
  simp
/-- what a run of sectors lays -/
theorem flat_laid : ∀ (n : Nat) (l : List (List UInt8)) (fr q : Nat) (f : List UInt8), (∀ s ∈ l, s.length = 64) → f.length ≤ n → (fr + q) * 64 + f.length ≤ 64 * l.length →
    (flat (setAll l (laidL n (fr + q) f)) fr).take (64 * q + f.length) = (flat l fr).take (64 * q) ++ f
  | 0, l, fr, q, f, h, hn, hr => by
    obtain rfl : f = [] := List.eq_nil_of_length_eq_zero (by omega)
    simp [laidL, setAll]
  | n + 1, l, fr, q, f, h, hn, hr => by
    by_cases hf : f = []
    · subst hf; simp [laidL, setAll]
    · have hpos : 0 < f.length := by
        cases f with
        | nil => exact absurd rfl hf
        | cons _ _ => simp
      have hpl : (pad64 (f.take 64)).length = 64 := pad64_length _ (by rw [List.length_take]; omega)
      have ih := flat_laid n (l.set (fr + q) (pad64 (f.take 64))) fr (q + 1) (f.drop 64) (sec_set h _ hpl) (by rw [List.length_drop]; omega) (by
        rw [List.length_drop, List.length_set]
        by_cases h64 : f.length ≤ 64
        · have : fr + q < l.length := by omega
          omega
        · omega)
      rw [flat_set_take h fr q (by omega) hpl] at ih
      have e : setAll l (laidL (n + 1) (fr + q) f) = setAll (l.set (fr + q) (pad64 (f.take 64))) (laidL n (fr + (q + 1)) (f.drop 64)) := by
        rw [laidL, if_neg hf]; rfl
      rw [e]
      by_cases h64 : 64 ≤ f.length
      · rw [show 64 * q + f.length = 64 * (q + 1) + (f.drop 64).length by rw [List.length_drop]; omega, ih]
        have hp : pad64 (f.take 64) = f.take 64 := pad64_id (by rw [List.length_take]; omega)
        rw [hp, List.append_assoc, List.take_append_drop]
      · rw [List.drop_eq_nil_of_le (by omega)] at ih ⊢
        rw [List.take_of_length_le (l := f) (by omega)] at ih ⊢
        have h2 : (flat l fr).length = 64 * (l.length - fr) := by
          unfold flat
          rw [flat_sum _ (fun s hs => h s (List.mem_of_mem_drop hs)), List.length_drop]
        have := congrArg (List.take (64 * q + f.length)) ih
        rw [List.length_nil, Nat.add_zero, List.append_nil, List.take_take, Nat.min_eq_left (by omega)] at this
        rw [this, List.take_append, List.length_take, h2, Nat.min_eq_left (by omega), List.take_of_length_le (by rw [List.length_take]; omega), show 64 * q + f.length - 64 * q = f.length by omega]
        congr 1
        unfold pad64
        rw [List.take_left]
/-- a disk at rest -/
structure Rest (st : DSt) : Prop where
  calm : Calm st
  waits : st.waits = []
  sec : ∀ s ∈ st.last, s.length = 64
theorem Rest.read {st : DSt} (h : Rest st) {i : Nat} (hi : i < st.last.length) : st.read (i : Int) = (st.last[i], 0) := by
  unfold DSt.read DSt.may
  rw [h.calm.down, h.waits]
  simp [readTo, hi]
theorem Rest.secs {st : DSt} (h : Rest st) (fr : Nat) : ∀ k, fr + k ≤ st.last.length → secs st fr k = ((st.last.drop fr).take k).flatten
  | 0, _ => by simp [Proofs.Ytdhhpnfdnoaihaa.secs]
  | k + 1, hk => by
    show Proofs.Ytdhhpnfdnoaihaa.secs st fr k ++ (st.read ((fr + k : Nat) : Int)).1 = _
    rw [Rest.secs h fr k (by omega), h.read (by omega), List.take_succ_eq_append_getElem (by rw [List.length_drop]; omega), List.flatten_append]
    simp
theorem Rest.area {st : DSt} (h : Rest st) (fr n : Nat) (hn : fr * 64 + n ≤ 64 * st.last.length) : area st fr n = (flat st.last fr).take n := by
  unfold Proofs.Ytdhhpnfdnoaihaa.area flat
  rw [h.secs fr _ (by omega), ← flat_take _ _ (fun s hs => h.sec s (List.mem_of_mem_drop hs)), List.take_take, Nat.min_eq_left (by omega)]
theorem Rest.part {st : DSt} (h : Rest st) (fr en : Nat) (hn : fr * 64 + en ≤ 64 * st.last.length) : (flat st.last fr).take (64 * (en / 64)) ++ jpart st fr en = (flat st.last fr).take en := by
  unfold jpart
  by_cases hp : 0 < en % 64
  · rw [if_pos hp, h.read (by omega)]
    have hs : ∀ s ∈ st.last.drop fr, s.length = 64 := fun s hs => h.sec s (List.mem_of_mem_drop hs)
    have e1 : (flat st.last fr).take en = (flat st.last fr).take (64 * (en / 64)) ++ ((flat st.last fr).drop (64 * (en / 64))).take (en % 64) := by
      rw [← List.take_add]; congr 1; omega
    rw [e1]
    congr 1
    unfold flat
    rw [flat_drop _ _ hs, List.drop_drop, List.drop_eq_getElem_cons (by omega), List.flatten_cons, List.take_append_of_le_length (by rw [h.sec _ (List.getElem_mem _)]; omega)]
  · rw [if_neg hp, List.append_nil, show 64 * (en / 64) = en by omega]
/-- a frame that fits stands behind -/
theorem Rest.appended {st : DSt} (h : Rest st) (fr to en : Nat) (b : List UInt8) (hf : fr ≤ to ∧ to ≤ st.last.length) (hroom : en + b.length + 16 ≤ (to - fr) * 64) :
    (st.append fr en b).2 = 0 ∧ Rest (st.append fr en b).1 ∧ (st.append fr en b).1.last.length = st.last.length ∧ (flat (st.append fr en b).1.last fr).take (en + b.length + 16) = (flat st.last fr).take en ++ frameL b := by
  have hl := jall_len st fr en b
  have hpart := h.part fr en (by omega)
  have hac := append_calm h.calm fr to en b hf hroom
  have hpl : (jpart st fr en).length = en % 64 := by
    have := congrArg List.length hpart
    rw [List.length_append, List.length_take, List.length_take] at this
    have h2 : (flat st.last fr).length = 64 * (st.last.length - fr) := by
      unfold flat
      rw [flat_sum _ (fun s hs => h.sec s (List.mem_of_mem_drop hs)), List.length_drop]
    omega
  have hjl : (jall st fr en b).length = en % 64 + (b.length + 16) := by unfold jall; rw [List.length_append, hpl, frameL_len]
  have hlaid := flat_laid ((jall st fr en b).length + 1) st.last fr (en / 64) (jall st fr en b) h.sec (by omega) (by omega)
  rw [h.waits, List.nil_append] at hac
  rw [hac]
  refine ⟨rfl, ⟨⟨rfl, h.calm.armed⟩, rfl, ?_⟩, setAll_length _ _, ?_⟩
  · refine setAll_sec _ ?_ _ h.sec
    intro y hy
    have : ∀ (n i : Nat) (f : List UInt8), ∀ y ∈ laidL n i f, y.2.length = 64 := by
      intro n
      induction n with
      | zero => intro i f y hy; simp [laidL] at hy
      | succ n ih =>
        intro i f y hy
        rw [laidL] at hy
        split at hy
        · simp at hy
        · rcases List.mem_cons.1 hy with rfl | hy
          · exact pad64_length _ (by rw [List.length_take]; omega)
          · exact ih _ _ y hy
    exact this _ _ _ y hy
  · show (flat (setAll st.last (laidL ((jall st fr en b).length + 1) (fr + en / 64) (jall st fr en b))) fr).take (en + b.length + 16) = _
    rw [show en + b.length + 16 = 64 * (en / 64) + (jall st fr en b).length by omega, hlaid]
    conv => lhs; unfold jall
    rw [← List.append_assoc, hpart]
end Go.Proofs.Ytdhhpnfdnoaihaa

/-! P4 -/
/- The plain law of a journal: frames are parted as they were put. -/
namespace Go.Proofs.Ytdhhpnfdnoaihaa
open Go.RowKit

theorem byt_toNat (n : Nat) : (byt (n : Int)).toNat = n % 256 := by
  have := byt_nat (n : Int)
  omega
theorem be8_nat (n : Nat) : be8 (n : Int) = [byt ((n / 72057594037927936 : Nat) : Int), byt ((n / 281474976710656 : Nat) : Int), byt ((n / 1099511627776 : Nat) : Int), byt ((n / 4294967296 : Nat) : Int), byt ((n / 16777216 : Nat) : Int), byt ((n / 65536 : Nat) : Int), byt ((n / 256 : Nat) : Int), byt (n : Int)] := by
  unfold be8
  simp only [Int.natCast_ediv]
  rfl
theorem be_back (n : Nat) (h : n < 18446744073709551616) : beN (be8 (n : Int)) = n := by
  rw [be8_nat]
  simp only [beN, List.foldl_cons, List.foldl_nil, byt_toNat]
  omega
theorem i64_small (n : Nat) (h : n < 9223372036854775808) : i64 n = (n : Int) := wrap_in _ (by omega)
theorem frame_jlen (b r : List UInt8) (h : b.length < 9223372036854775808) : jlen (frameL b ++ r) = (b.length : Int) := by
  unfold jlen frameL
  rw [List.append_assoc, List.append_assoc, List.take_append_of_le_length (by rw [be8_len]; omega), List.take_of_length_le (by rw [be8_len]; omega), be_back _ (by omega), i64_small _ h]
theorem frame_jsum (b r : List UInt8) : jsum (frameL b ++ r) = ((csum b).toNat : Int) := by
  have hq := (csum b).isLt
  unfold jsum frameL
  rw [List.append_assoc, List.append_assoc, List.drop_append_of_le_length (by rw [be8_len]; omega), show (be8 (b.length : Int)).drop 8 = [] from rfl, List.nil_append,
    List.take_append_of_le_length (by rw [be8_len]; omega), List.take_of_length_le (by rw [be8_len]; omega), be_back _ (by omega), i64_small _ (by omega)]
theorem frame_drop (b r : List UInt8) : (frameL b ++ r).drop 16 = b ++ r := by
  unfold frameL
  rw [List.append_assoc, List.drop_append_of_le_length (by simp [be8_len]), show (be8 (b.length : Int) ++ be8 ((csum b).toNat : Int)).drop 16 = [] from rfl, List.nil_append]
theorem frame_body (b r : List UInt8) : jbody (frameL b ++ r) b.length = b := by
  unfold jbody
  rw [frame_drop, List.take_left]
theorem frame_fine (b r : List UInt8) (h : b.length < 9223372036854775808) : jfine (frameL b ++ r) := by
  unfold jfine
  rw [frame_jlen b r h, frame_jsum, Int.toNat_natCast, frame_body, List.length_append, frameL_len]
  exact ⟨by omega, by omega, by omega, rfl⟩
/-- frames one behind the other -/
def frames (l : List (List UInt8)) : List UInt8 := (l.map frameL).flatten
theorem frames_snoc (l : List (List UInt8)) (b : List UInt8) : frames (l ++ [b]) = frames l ++ frameL b := by simp [frames]
theorem split_frames : ∀ (l : List (List UInt8)) (n : Nat), (∀ b ∈ l, b.length < 9223372036854775808) → (frames l).length ≤ n → jsplit n (frames l) = some l
  | [], n, _, _ => by simp [frames, jsplit_nil]
  | b :: l, n, h, hn => by
    have e : frames (b :: l) = frameL b ++ frames l := by simp [frames]
    have hb := h b (by simp)
    rw [e] at hn ⊢
    rw [List.length_append, frameL_len] at hn
    obtain ⟨m, rfl⟩ : ∃ m, n = m + 1 := ⟨n - 1, by omega⟩
    rw [jsplit_step (by rw [List.length_append, frameL_len]; omega) (frame_fine b _ hb), frame_jlen b _ hb, Int.toNat_natCast, frame_body, ← List.drop_drop, frame_drop, List.drop_left,
      split_frames l m (fun x hx => h x (by simp [hx])) (by omega)]
    rfl
theorem open_frames (l : List (List UInt8)) (h : ∀ b ∈ l, b.length < 9223372036854775808) : jopen (frames l) l.length = some l := by
  unfold jopen
  rw [split_frames l _ h (Nat.le_refl _)]
  simp
end Go.Proofs.Ytdhhpnfdnoaihaa

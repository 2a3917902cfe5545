/- slices.Concat of bytes. -/
import Derived.Test.YtdhhpnfdnoaihaaJ1
namespace Go.Proofs.Ytdhhpnfdnoaihaa
open Go.RowKit

theorem RdSS.mod {w w' : World} {a : Option Addr} {ls : List (List UInt8)} (h : RdSS w a ls) (hm : Mod None w w') : RdSS w' a ls := by
  rcases h with rfl | ⟨b, o, rfl, hc⟩
  · exact .inl rfl
  · refine .inr ⟨b, o, rfl, fun i hi => ?_⟩
    obtain ⟨v, hv, hp⟩ := hc i hi
    exact ⟨v, (hm.cell (p := ⟨b, o + i, none⟩) (World.block_lt_of_cell? w _ hv) (fun h => h)).trans hv, hp.mod hm (fun _ _ h => h)⟩
theorem take_len_le (ls : List (List UInt8)) (k : Nat) : (ls.take k).flatten.length ≤ ls.flatten.length := by
  have : ls.flatten = (ls.take k).flatten ++ (ls.drop k).flatten := by rw [← List.flatten_append, List.take_append_drop]
  rw [this, List.length_append]; omega
def catRel (w wr : World) (ls : List (List UInt8)) (k : Nat) (v : Value) : Prop := OwnB wr w.heap.size v (ls.take k).flatten ∧ Mod None w wr
set_option maxRecDepth 100000 in
set_option maxHeartbeats 1600000 in
theorem concat_any (w : World) (a : Option Addr) (cap : Nat) (ls : List (List UInt8)) (h : RdSS w a ls) (hl : ls.length ≤ 1000000) (h0 : 0 < ls.flatten.length) (hb : ls.flatten.length ≤ 100000000) :
    Calls Try.prog 82 #[.slice a ls.length cap] w (RowPost ls.flatten w) := by
  have HS := hid (fun w' hm => RdSS.mod h (w' := w') hm)
  have HT := hid (fun k => take_len_le ls k)
  clear h
  go_enter Try.func82, Try.ntmps82
  go_wp2_with fail
  go_loopw [3, 11] (fun x i wr => ∃ k : Nat, k ≤ ls.length ∧ i = .int .i64 k ∧ x = .int .i64 ((ls.take k).flatten.length : Nat) ∧ w = wr) (fun _ i _ => ls.length - (intOf i).toNat)
  case atStart => exact ⟨0, by omega, rfl, by simp, rfl⟩
  case round =>
    obtain ⟨k, hk, rfl, rfl, rfl⟩ := hrel
    by_cases hlt : k < ls.length
    · rcases HS.out w (Mod.refl _ _) with rfl | ⟨b, o, rfl, hcell⟩
      · simp at hlt
      obtain ⟨pv, hpv, hpart⟩ := hcell k hlt
      obtain ⟨pa, pc, rfl, hprd⟩ := part_len hpart
      have HF := hid (congrArg List.length (flatten_take ls k hlt))
      have hk1 := HT.out (k + 1)
      rw [HF.out, List.length_append] at hk1
      rw [List.length_append] at HF
      clear hprd hpart hcell
      generalize (ls.take k).flatten.length = fl at *
      generalize ls[k].length = pl at *
      generalize hfl : ls.flatten.length = tl at *
      have hlt' : (k : Int) < (ls.length : Int) := by omega
      go_wp2_with fail
      go_roundw
      case rel => exact ⟨k + 1, by omega, by go_num, by rw [HF.out]; go_num, trivial⟩
      case measure => simp [intOf]; omega
    · obtain rfl : k = ls.length := by omega
      have hlt' : ¬ (ls.length : Int) < (ls.length : Int) := by omega
      rw [List.take_length]
      clear hlt
      have HG := hid (grow_any w ls.flatten.length h0 (by omega))
      generalize hfl : ls.flatten.length = fl at *
      have HFL := hid hfl
      clear hfl
      go_wp2_with fail
      refine HG.out.mono ?_
      rintro e w2 ⟨ga, gc, rfl, hown, hm⟩
      have HO := hid hown
      have HM := hid hm
      clear hown hm
      go_wp2_with fail
      go_loopw [6, 27] (fun v i wq => ∃ k : Nat, k ≤ ls.length ∧ i = .int .i64 k ∧ Hid (∃ b c, v = .slice b (ls.take k).flatten.length c) ∧ Hid (catRel w wq ls k v)) (fun _ i _ => ls.length - (intOf i).toNat)
      case atStart => exact ⟨0, by omega, rfl, ⟨_, _, rfl⟩, HO.out, HM.out⟩
      case round =>
        obtain ⟨k, hk, rfl, hv, hr⟩ := hrel
        obtain ⟨vb, vc, rfl⟩ := hv.out
        clear hv
        by_cases hlt : k < ls.length
        · rcases HS.out wr hr.out.2 with rfl | ⟨b, o, rfl, hcell⟩
          · simp at hlt
          obtain ⟨pv, hpv, hpart⟩ := hcell k hlt
          obtain ⟨pa, pc, rfl, hprd⟩ := part_len hpart
          have HP := hid hprd
          have HF := hid (flatten_take ls k hlt)
          have hk1 := HT.out (k + 1)
          rw [HF.out, List.length_append] at hk1
          have HK1 := hid hk1
          have HO0 := hid hr.out.1
          have HM0 := hid hr.out.2
          have HB := hid (show ∀ va vc, ∃ b c, Value.slice va (ls.take (k + 1)).flatten.length vc = .slice b (ls.take (k + 1)).flatten.length c from fun _ _ => ⟨_, _, rfl⟩)
          clear hprd hpart hcell hk1 hr
          generalize hp : ls[k] = p at *
          generalize hfl2 : (ls.take k).flatten = f2 at *
          generalize hn2 : (ls.take (k + 1)).flatten.length = n2 at *
          have HN2 := hid hn2
          clear hp hfl2 hn2
          have hlt' : (k : Int) < (ls.length : Int) := by omega
          go_wp2_with (at_builtin; go_loud (refine wpList_append_b2 rfl (.tmp 31) (.tmp 32) rfl w.heap.size _ f2 rfl HO0.out pa p _ _ rfl rfl HP.out (by have := HK1.out; have := HFL.out; omega) HM0.out.size _ HF.out n2 HN2.out.symm None w HM0.out (Nat.le_refl _) ?_); intro va vcap w' HO HG)
          go_roundw
          case rel => exact ⟨k + 1, by omega, by go_num, by rw [HN2.out]; exact HB.out _ _, HO.out, HG.out⟩
          case measure => simp [intOf]; omega
        · obtain rfl : k = ls.length := by omega
          rw [List.take_length] at *
          have hlt' : ¬ (ls.length : Int) < (ls.length : Int) := by omega
          have HR := hid hr.out
          clear hr hlt
          go_wp2_with fail
          go_ret
          exact ⟨vb, vc, by have h := HFL.out; rw [List.length_flatten] at h; simp [h, HFL.out], by have := HR.out.1; rw [List.take_length] at this; exact this, HR.out.2⟩
end Go.Proofs.Ytdhhpnfdnoaihaa

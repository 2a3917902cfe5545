/- The walk of CrcSums. -/
import Derived.Test.YtdhhpnfdnoaihaaL2
import Derived.Test.YtdhhpnfdnoaihaaW3
namespace Go.Proofs.Ytdhhpnfdnoaihaa
open Go.RowKit

theorem part_len {w : World} {v : Value} {l : List UInt8} (h : Part w v l) : ∃ a c, v = .slice a l.length c ∧ Rd w a l := by
  obtain ⟨a, c, h1, h2, _⟩ := h; exact ⟨a, c, h1, h2⟩
/-- the parts, in whatever later world -/
theorem VBytess.ss {w : World} {a : Option Addr} {ls : List (List UInt8)} (h : Seen w 1 (EBytes w) a ls) {w' : World} (hm : Mod None w w') : RdSS w' a ls := by
  rcases h with rfl | ⟨b, o, rfl, hx⟩
  · exact .inl rfl
  · refine .inr ⟨b, o, rfl, fun i hi => ?_⟩
    obtain ⟨cs, hl, ⟨v, rfl, hv⟩, hc⟩ := hx i hi
    have h1 := hc 0 (by omega)
    rw [Nat.mul_one, Nat.add_zero] at h1
    have h1' : w.cell? ⟨b, o + i, none⟩ = some v := h1
    exact ⟨v, by rw [hm.cell (p := ⟨b, o + i, none⟩) (World.block_lt_of_cell? w _ h1') (fun h => h)]; exact h1', hv.part.mod hm (fun _ _ h => h)⟩

theorem rd_take {w : World} {a : Option Addr} {l : List UInt8} (h : Rd w a l) (c : Nat) : Rd w a (l.take c) := by
  rcases h with h | ⟨b, o, rfl, hc⟩
  · left; simp at h; simp [h]
  · refine .inr ⟨b, o, rfl, fun i hi => ?_⟩
    have hi' : i < c ∧ i < l.length := by simpa [Nat.lt_min] using hi
    rw [hc i (by simpa using hi'.2)]
    simp [hi'.1]
theorem rd_drop {w : World} {b o : Nat} {l : List UInt8} (h : Rd w (some ⟨b, o, none⟩) l) (c : Nat) : Rd w (some ⟨b, o + c, none⟩) (l.drop c) := by
  rcases h with h | ⟨b', o', e, hc⟩
  · left; simp at h; simp [h]
  · obtain ⟨rfl, rfl⟩ : b = b' ∧ o = o' := by simpa using e
    refine .inr ⟨b, o + c, rfl, fun i hi => ?_⟩
    have hi' : i < l.length - c := by simpa using hi
    rw [Nat.add_assoc, hc (c + i) (by simp; omega)]
    simp
theorem part_take {w : World} {a : Option Addr} {l : List UInt8} (h : Rd w a l) {c : Nat} (hc : c ≤ l.length) (hl : l.length ≤ 140737488351232) (k : Nat) : Part w (.slice a c k) (l.take c) :=
  ⟨a, k, by rw [List.length_take, Nat.min_eq_left hc], rd_take h c, by rw [List.length_take]; omega⟩
theorem part_drop {w : World} {a : Option Addr} {l : List UInt8} (h : Rd w a l) {c : Nat} (hc : c ≤ l.length) (hl : l.length ≤ 140737488351232) {vc : Nat} (hcap : l.length ≤ vc) :
    Part w (.slice (if vc = c then a else a.map (·.add c)) (l.length - c) (vc - c)) (l.drop c) := by
  refine ⟨_, vc - c, by rw [List.length_drop], ?_, by rw [List.length_drop]; omega⟩
  by_cases hv : vc = c
  · left
    have : l.drop c = [] := by rw [List.drop_eq_nil_iff]; omega
    rw [this]; rfl
  · rw [if_neg hv]
    cases a with
    | none =>
      left
      rcases h with h | ⟨_, _, e, _⟩
      · simp at h; simp [h]
      · cases e
    | some x =>
      rcases h with h | ⟨b, o, e, hx⟩
      · left; simp at h; simp [h]
      · obtain rfl : x = ⟨b, o, none⟩ := by simpa using e
        rw [Option.map_some, addr_add]
        exact rd_drop (.inr ⟨b, o, rfl, hx⟩) c
theorem sums3 (W : World) (a X : Option Addr) (n m k1 k2 : Nat) (l1 l2 fl : List UInt8) (h1 : Part W (.slice a n k1) l1) (h2 : Part W (.slice X m k2) l2) (hf : l1 ++ l2 = fl) :
    Calls Try.prog 24 #[.slice (some ⟨W.heap.size, 0, none⟩) 3 3] (W.alloc (.cells #[.slice a n k1, .slice none 0 0, .slice X m k2] 27)).drew
      fun e w' => e = .returned (U32 (csum fl)) ∧ (W.alloc (.cells #[.slice a n k1, .slice none 0 0, .slice X m k2] 27)).drew = w' := by
  refine sum_made W.drew [l1, [], l2] _ 3 _ rfl rfl rfl (by simp) (fun i hi => ?_) fl (by simpa using hf)
  match i, hi with
  | 0, _ => exact ⟨_, rfl, h1.mod (Mod.refl None W).drew (fun _ _ h => h)⟩
  | 1, _ => exact ⟨_, rfl, none, 0, rfl, .inl rfl, by simp⟩
  | 2, _ => exact ⟨_, rfl, h2.mod (Mod.refl None W).drew (fun _ _ h => h)⟩
def sumsRel (w wr : World) (ls : List (List UInt8)) (k : Nat) (v : Value) : Prop :=
  OwnB wr w.heap.size v (ls.take k).flatten ∧ Mod None w wr ∧ (ls.take k).flatten.length ≤ 2097152

set_option maxRecDepth 100000 in
set_option maxHeartbeats 1600000 in
theorem CrcSums_walk (w : World) (v0 : Value) (l0 : List (List UInt8)) (w0 : VBytess w v0 l0) (a1 : Int) (w1 : (Lit.int .i64 a1).wf = true) :
    Calls Try.prog 4 #[v0, .int .i64 a1] w fun e w' => e = .returned (.bool true) ∧ Below w.heap.size w w' := by
  obtain ⟨a, cap, rfl, hll, hseen⟩ := w0
  have HS := hid (fun w' hm => VBytess.ss hseen (w' := w') hm)
  have hle : l0.length ≤ 140737488351232 := by omega
  clear hseen hll
  go_enter Try.func4, Try.ntmps4
  go_wp2_with fail
  go_loopw [5, 6] (fun v i wr => ∃ k : Nat, k ≤ l0.length ∧ i = .int .i64 k ∧ Hid (∃ b c, v = .slice b (l0.take k).flatten.length c) ∧ Hid (sumsRel w wr l0 k v)) (fun _ i _ => l0.length - (intOf i).toNat)
  case atStart => exact ⟨0, by omega, rfl, ⟨none, 0, rfl⟩, OwnB.nil _ _, Mod.refl _ _, by simp⟩
  case round =>
    obtain ⟨k, hk, rfl, hv, hr⟩ := hrel
    obtain ⟨vb, vc, rfl⟩ := hv.out
    have hfl := hr.out.2.2
    clear hv
    by_cases hlt : k < l0.length
    · rcases HS.out wr hr.out.2.1 with rfl | ⟨b, o, rfl, hcell⟩
      · simp at hlt
      obtain ⟨pv, hpv, hpart⟩ := hcell k hlt
      obtain ⟨pa, pc, rfl, hprd⟩ := part_len hpart
      have HP := hid hprd
      clear hprd hpart hcell
      have HF := hid (flatten_take l0 k hlt)
      generalize hp : l0[k] = p at *
      by_cases hb1 : 1048576 < (l0.take k).flatten.length
      · have hb1' : (1048576 : Int) < ((l0.take k).flatten.length : Int) := by omega
        have HMM := hid hr.out.2.1
        generalize (l0.take k).flatten.length = fl at *
        clear hr hfl hb1 HF HP hp
        go_wp2_with fail
        refine (awake2_any _).mono ?_
        rintro e w' ⟨rfl, hm⟩
        have HM := hid hm; clear hm
        go_wp2_with fail
        go_ret
        exact ⟨rfl, (HMM.out.trans HM.out).below _ (Nat.le_refl _) (fun _ h => h.elim)⟩
      · by_cases hb2 : 1048576 < p.length
        · have hb1' : ¬ (1048576 : Int) < ((l0.take k).flatten.length : Int) := by omega
          have hb2' : (1048576 : Int) < (p.length : Int) := by omega
          have HMM := hid hr.out.2.1
          generalize (l0.take k).flatten.length = fl at *
          clear hr hfl hb1 hb2 HF HP hp
          generalize p.length = pl at *
          go_wp2_with fail
          refine (awake2_any _).mono ?_
          rintro e w' ⟨rfl, hm⟩
          have HM := hid hm; clear hm
          go_wp2_with fail
          go_ret
          exact ⟨rfl, (HMM.out.trans HM.out).below _ (Nat.le_refl _) (fun _ h => h.elim)⟩
        · have hb1' : ¬ (1048576 : Int) < ((l0.take k).flatten.length : Int) := by omega
          have hb2' : ¬ (1048576 : Int) < (p.length : Int) := by omega
          have hlen : (l0.take (k + 1)).flatten.length ≤ 2097152 := by rw [HF.out, List.length_append]; omega
          have HLEN := hid hlen
          have HO0 := hid hr.out.1
          have HM0 := hid hr.out.2.1
          clear hlen hb1 hb2 hfl hr
          generalize hfl : (l0.take k).flatten = fl at *
          have HFL := hid hfl
          have HPP := hid hp
          clear hfl hp
          have HB := hid (show ∀ va vc, ∃ b c, Value.slice va (l0.take (k + 1)).flatten.length vc = .slice b (l0.take (k + 1)).flatten.length c from fun _ _ => ⟨_, _, rfl⟩)
          generalize hn2 : (l0.take (k + 1)).flatten.length = n2 at *
          go_wp2_with (at_builtin; go_loud (refine wpList_append_b2 rfl (.tmp 26) (.tmp 30) rfl w.heap.size _ fl rfl HO0.out pa p _ _ rfl rfl HP.out (by omega) HM0.out.size _ HF.out n2 hn2.symm None w HM0.out (Nat.le_refl _) ?_); intro va vcap w' HO HG)
          go_roundw
          case rel => exact ⟨k + 1, by omega, by go_num, by rw [hn2]; exact HB.out _ _, HO.out, HG.out, by rw [hn2]; exact HLEN.out⟩
          case measure => simp [intOf]; omega
    · obtain rfl : k = l0.length := by omega
      have ho := hr.out.1
      have hm := hr.out.2.1
      rw [List.take_length] at ho hfl
      have hcap : l0.flatten.length ≤ vc := ho.cap
      simp only [List.take_length]
      have HO := hid ho
      have HM := hid hm
      have hrd : Rd wr vb l0.flatten := by
        obtain ⟨a, c, e, h⟩ := ho.rd
        cases e; exact h
      have HRD := hid hrd
      clear ho hm hr hrd
      generalize hfg : l0.flatten = fl at *
      have HFG := hid hfg
      clear hfg
      go_wp2_with fail
      refine (refsum_any vb vc fl _ HRD.out (by omega)).mono ?_
      rintro e w' ⟨rfl, rfl⟩
      go_wp2_with fail
      refine (awake2_any _).mono ?_
      rintro e wx ⟨rfl, hm1⟩
      have HM1 := hid (HM.out.trans hm1)
      have HRD1 := hid (hm1.rd HRD.out (fun _ _ h => h))
      clear hm1 HRD HM HO
      go_wp2_with fail
      refine (sum_any a cap l0 _ (HS.out _ HM1.out) hle).mono ?_
      rintro e w2 ⟨rfl, rfl⟩
      rw [HFG.out]
      go_wp2_with fail
      refine (sum_made _ [fl] _ _ _ rfl (by simp) rfl (by simp) (fun i hi => ?_) fl (by simp)).mono ?_
      · obtain rfl : i = 0 := by simpa using hi
        exact ⟨_, rfl, _, _, rfl, HRD1.out, by show fl.length ≤ _; omega⟩
      rintro e w2 ⟨rfl, rfl⟩
      by_cases h1 : a1 < 0 ∨ (fl.length : Int) < a1
      · clear HS HFG HRD1 hcap w1 hlt hk
        go_wp2_with fail
        all_goals
          go_ret
          exact ⟨rfl, (HM1.out.alloc _).below _ (Nat.le_refl _) (fun _ h => h.elim)⟩
      · obtain ⟨c, rfl⟩ : ∃ c : Nat, a1 = c := ⟨a1.toNat, by omega⟩
        have hc : c ≤ fl.length := by omega
        have h1' : ¬ ((c : Int) < 0) := by omega
        have h2' : ¬ ((fl.length : Int) < (c : Int)) := by omega
        clear h1 w1
        have HP1 := hid (part_take HRD1.out hc (by omega) vc)
        have HP2 := hid (part_drop HRD1.out hc (by omega) hcap)
        clear HRD1 HS HFG
        go_wp2_with fail
        have HMX := hid (HM1.out.alloc (.cells #[Value.slice vb fl.length vc] 27))
        have HQ1 := hid (HP1.out.mod ((Mod.refl None _).alloc (.cells #[Value.slice vb fl.length vc] 27)) (fun _ _ h => h))
        have HQ2 := hid (HP2.out.mod ((Mod.refl None _).alloc (.cells #[Value.slice vb fl.length vc] 27)) (fun _ _ h => h))
        clear HP1 HP2 HM1
        generalize wx.alloc _ = w3 at *
        have hcv : c ≤ vc := by omega
        by_cases hv : vc = c
        · obtain rfl := hv
          rw [if_pos rfl, Nat.sub_self, show fl.length - vc = 0 from by omega] at HQ2
          go_region_with (go_at_call 24; refine (sums3 w3 _ _ _ _ _ _ _ _ fl HQ1.out HQ2.out (List.take_append_drop _ _)).mono ?_; rintro e w' ⟨rfl, rfl⟩)
          go_wp2
          go_ret
          exact ⟨ret_bool (by simp), ((HMX.out.alloc _).drew).below _ (Nat.le_refl _) (fun _ h => h.elim)⟩
        · rw [if_neg hv] at HQ2
          go_region_with (go_at_call 24; refine (sums3 w3 _ _ _ _ _ _ _ _ fl HQ1.out HQ2.out (List.take_append_drop _ _)).mono ?_; rintro e w' ⟨rfl, rfl⟩)
          go_wp2
          go_ret
          exact ⟨ret_bool (by simp), ((HMX.out.alloc _).drew).below _ (Nat.le_refl _) (fun _ h => h.elim)⟩
end Go.Proofs.Ytdhhpnfdnoaihaa

/- The walk of CrcFinds. -/
import Derived.Test.YtdhhpnfdnoaihaaM3
import Derived.Test.YtdhhpnfdnoaihaaX1
import Derived.Test.YtdhhpnfdnoaihaaW4
namespace Go.Proofs.Ytdhhpnfdnoaihaa
open Go.RowKit

theorem v_und33 : Try.prog.underlying 33 = some (.array 4 5) := by kernel_rfl
theorem v_cells33 : Try.prog.cellsOf 33 = 4 := by kernel_rfl
theorem trod_byte0 {H : Type} {enc : TypeId × Value → H} {w : World} {n : Nat} {cs : List Value} {x : DataW H × List MemPlace} (h : Rdg enc w n 5 cs = some x) : ∃ b, EByte cs b := by
  obtain ⟨z, rfl, _, hw⟩ := DataW.trod_int v_und5 h
  have hb : 0 ≤ z ∧ z ≤ 255 := by simpa [Lit.wf, IntKind.min, IntKind.max, IntKind.signed, IntKind.bits] using hw
  refine ⟨UInt8.ofNat z.toNat, ?_⟩
  unfold EByte B
  have : (UInt8.ofNat z.toNat).toNat = z.toNat := by rw [UInt8.toNat_ofNat']; omega
  rw [this, Int.toNat_of_nonneg hb.1]
/-- four bytes by value -/
def VArr4 (v : Value) (q : UInt8 × UInt8 × UInt8 × UInt8) : Prop := v = .agg #[B q.1, B q.2.1, B q.2.2.1, B q.2.2.2]
set_option maxRecDepth 100000 in
theorem view_arr4 {H : Type} {enc : TypeId × Value → H} {w : World} {n : Nat} {v : Value} {d : DataW H} {ps : List MemPlace} {r : Reach} {b0 : Nat} (hv : Value.okWide Try.prog w r b0 33 v)
    (h : Rdg enc w n 33 v.cells.toList = some (d, ps)) (_ : Small 33 d) : ∃ q, VArr4 v q := by
  simp only [Value.okWide, v_und33] at hv
  obtain ⟨cs, rfl, hs, _⟩ := hv
  rw [v_cells33] at hs
  obtain ⟨xs, m, _, _, _, _, hx⟩ := DataW.trod_array v_und33 h
  have key : ∀ i, i < 4 → ∃ b : UInt8, cs[i]? = some (B b) := by
    intro i hi
    have h1 := hx i hi
    rw [v_cells5, Nat.mul_one] at h1
    have hlen : i < xs.length := by omega
    rw [List.getElem?_eq_getElem hlen] at h1
    obtain ⟨b, hb⟩ := trod_byte0 h1
    refine ⟨b, ?_⟩
    have h2 := congrArg (fun l => l[0]?) hb
    simp only [Value.cells] at h2
    rw [List.getElem?_take, if_pos (by omega), List.getElem?_drop] at h2
    simpa using h2
  obtain ⟨q0, h0⟩ := key 0 (by omega)
  obtain ⟨q1, h1⟩ := key 1 (by omega)
  obtain ⟨q2, h2⟩ := key 2 (by omega)
  obtain ⟨q3, h3⟩ := key 3 (by omega)
  refine ⟨(q0, q1, q2, q3), ?_⟩
  unfold VArr4
  congr 1
  apply Array.ext_getElem?
  intro i
  match i with
  | 0 => rw [h0]; rfl
  | 1 => rw [h1]; rfl
  | 2 => rw [h2]; rfl
  | 3 => rw [h3]; rfl
  | i + 4 => rw [Array.getElem?_eq_none (by omega), Array.getElem?_eq_none (by simp)]
def findRel (at' : Nat) (l : List UInt8) (bys : List UInt8) (g : Nat) (rest : List Value) (w2 wr : World) (k : Nat) (x : Value) : Prop :=
  k ≤ 4 ∧ at' + k ≤ l.length ∧ Blk wr g 5 ((oth l at' bys k).map B ++ rest) ∧ x = .bool (allZ bys k) ∧ Mod (· = g) w2 wr
theorem find_cells {at' : Nat} {l bys : List UInt8} {g bb : Nat} {rest : List Value} {w2 wr : World} {k : Nat} {x : Value} (h : findRel at' l bys g rest w2 wr k x) (hk : k < 4) (hl : at' + k < l.length)
    {q0 q1 q2 q3 : UInt8} (hb : Blk w2 bb 33 ([q0, q1, q2, q3].map B)) (hne : bb ≠ g) :
    wr.cell? ⟨g, at' + k, none⟩ = some (.int .u8 (l[at' + k].toNat : Int)) ∧ wr.frozen? ⟨g, at' + k, none⟩ = false ∧
    wr.cell? ⟨bb, k, none⟩ = some (.int .u8 ([q0, q1, q2, q3][k].toNat : Int)) ∧ ∀ X, (wr.setCell ⟨g, at' + k, none⟩ X).cell? ⟨bb, k, none⟩ = some (.int .u8 ([q0, q1, q2, q3][k].toNat : Int)) := by
  obtain ⟨_, _, hblk, _, hm⟩ := h
  have h3 : wr.cell? ⟨bb, k, none⟩ = some (.int .u8 ([q0, q1, q2, q3][k].toNat : Int)) := by
    rw [(hm.blk hb hne).cell]
    match k, hk with
    | 0, _ => rfl
    | 1, _ => rfl
    | 2, _ => rfl
    | 3, _ => rfl
  refine ⟨?_, hblk.free _, h3, fun X => ?_⟩
  · rw [hblk.cell, List.getElem?_append_left (by simpa [oth_length] using hl), List.getElem?_map, oth_at l at' bys k hl]; rfl
  · rw [World.cell?_setCell_other _ _ _ _ (fun e => hne (congrArg Addr.block e).symm)]; exact h3
theorem byte_zero (b : UInt8) : ((b.toNat : Int) == 0) = (b == 0) := by
  rw [Bool.eq_iff_iff]
  simp only [beq_iff_eq]
  exact ⟨fun h => UInt8.toNat_inj.1 (by simp; omega), fun h => by rw [h]; rfl⟩
theorem xor8 (a b : UInt8) : bits .xor .u8 (a.toNat : Int) (b.toNat : Int) = ((a ^^^ b).toNat : Int) := by
  rw [u8_xor_nat _ _ a.toNat_lt b.toNat_lt, UInt8.toNat_xor]
theorem find_step {at' : Nat} {l : List UInt8} {g : Nat} {rest : List Value} {w2 wr : World} {k : Nat} {x : Value} {q0 q1 q2 q3 : UInt8} (h : findRel at' l [q0, q1, q2, q3] g rest w2 wr k x) (hk : k < 4) (hl : at' + k < l.length)
    {lb qb : UInt8} {z : Bool} (hlb : l[at' + k] = lb) (hqb : [q0, q1, q2, q3][k] = qb) (hz : allZ [q0, q1, q2, q3] k = z) (b : Bool) (hb : b = (z && qb == 0)) :
    findRel at' l [q0, q1, q2, q3] g rest w2 (wr.setCell ⟨g, at' + k, none⟩ (.int .u8 (bits .xor .u8 (lb.toNat : Int) (qb.toNat : Int)))).drew (k + 1) (.bool b) := by
  obtain ⟨_, _, hblk, _, hm⟩ := h
  refine ⟨by omega, by omega, ?_, ?_, (Mod.set (S := fun i => i = g) hm (.inl rfl) _).drew⟩
  · rw [oth_succ l at' _ k hl, hlb]
    have hq : [q0, q1, q2, q3].getD k 0 = qb := by rw [← hqb]; simp [hk]
    rw [hq, List.map_set]
    have := (hblk.set (at' + k) (.int .u8 (bits .xor .u8 (lb.toNat : Int) (qb.toNat : Int)))).drew
    rw [xor8] at this ⊢
    rw [List.set_append_left _ _ (by simpa [oth_length] using hl)] at this
    exact this
  · rw [hb, allZ_succ _ k (by simpa using hk), hz, hqb]
theorem find_end {at' : Nat} {l : List UInt8} {g : Nat} {rest : List Value} {w2 wr : World} {k : Nat} {x : Value} {q0 q1 q2 q3 : UInt8} (h : findRel at' l [q0, q1, q2, q3] g rest w2 wr k x) (_ : ¬ (k < 4 ∧ at' + k < l.length)) :
    Rd wr (some ⟨g, 0, none⟩) (oth l at' [q0, q1, q2, q3] k) ∧ (((csum (oth l at' [q0, q1, q2, q3] k)).toNat : Int) == ((csum l).toNat : Int)) = allZ [q0, q1, q2, q3] k ∧ Mod (· = g) w2 wr := by
  obtain ⟨h4, hl, hblk, _, hm⟩ := h
  refine ⟨.inr ⟨g, 0, rfl, fun i hi => ?_⟩, oth_same l at' _ k hl (by simpa using h4) h4, hm⟩
  rw [Nat.zero_add, hblk.cell, List.getElem?_append_left hi]
theorem size5 : (Try.prog.info? 5).map (·.size) = some 1 := by kernel_rfl
theorem eq_zeros (q0 q1 q2 q3 : UInt8) (w : World) :
    (Op.equalIn 10000 33 (.agg #[.int .u8 (q0.toNat : Int), .int .u8 (q1.toNat : Int), .int .u8 (q2.toNat : Int), .int .u8 (q3.toNat : Int)]) (.agg #[.int .u8 0, .int .u8 0, .int .u8 0, .int .u8 0])).run Try.prog w =
      .ok (((q0.toNat : Int) == 0) && (((q1.toNat : Int) == 0) && (((q2.toNat : Int) == 0) && ((q3.toNat : Int) == 0)))) w :=
  run_equalIn_arr4 w 9998 33 5 .u8 _ _ _ _ _ _ _ _ v_und33 v_und5 size5
set_option maxRecDepth 100000 in
set_option maxHeartbeats 1600000 in
theorem CrcFinds_walk (w : World) (v0 : Value) (l0 : List UInt8) (w0 : VBytes w v0 l0) (a1 : Int) (w1 : (Lit.int .i64 a1).wf = true) (v2 : Value) (q : UInt8 × UInt8 × UInt8 × UInt8) (w2 : VArr4 v2 q) :
    Calls Try.prog 6 #[v0, .int .i64 a1, v2] w fun e w' => e = .returned (.bool true) ∧ Below w.heap.size w w' := by
  have hp0 := w0.part
  obtain ⟨a0, c0, rfl, hl0, hrw⟩ := w0
  have HRW := hid hrw
  clear hrw
  obtain ⟨q0, q1, q2, q3⟩ := q
  unfold VArr4 at w2
  subst w2
  have HP0 := hid hp0
  clear hp0
  by_cases hneg : a1 < 0
  · go_enter Try.func6, Try.ntmps6
    go_wp2_with fail
    refine (awake2_any _).mono ?_
    rintro e w' ⟨rfl, hm⟩
    have HM := hid ((Mod.refl None w).alloc (.cells #[B q0, B q1, B q2, B q3] 33) |>.trans hm); clear hm
    go_wp2_with fail
    refine (awake2_any _).mono ?_
    rintro e w'' ⟨rfl, hm⟩
    have HM2 := hid hm; clear hm
    go_wp2_with fail
    go_ret
    exact ⟨rfl, (HM.out.trans HM2.out).below _ (Nat.le_refl _) (fun _ h => h.elim)⟩
  obtain ⟨at', rfl⟩ : ∃ n : Nat, a1 = n := ⟨a1.toNat, by omega⟩
  have hneg' : ¬ ((at' : Int) < 0) := by omega
  clear w1 hneg
  by_cases hge : l0.length ≤ at'
  · have hge' : (l0.length : Int) ≤ (at' : Int) := by omega
    go_enter Try.func6, Try.ntmps6
    go_wp2_with fail
    refine (awake2_any _).mono ?_
    rintro e w' ⟨rfl, hm⟩
    have HM := hid ((Mod.refl None w).alloc (.cells #[B q0, B q1, B q2, B q3] 33) |>.trans hm); clear hm
    go_wp2_with fail
    refine (awake2_any _).mono ?_
    rintro e w'' ⟨rfl, hm⟩
    have HM2 := hid hm; clear hm
    go_wp2_with fail
    go_ret
    exact ⟨rfl, (HM.out.trans HM2.out).below _ (Nat.le_refl _) (fun _ h => h.elim)⟩
  have hge' : ¬ ((l0.length : Int) ≤ (at' : Int)) := by omega
  go_enter Try.func6, Try.ntmps6
  go_wp2_with fail
  generalize hwb : w.alloc _ = wb
  have hbk : Blk wb w.heap.size 33 [B q0, B q1, B q2, B q3] := by subst hwb; exact Blk.new _ _ _
  have hmb : Mod None w wb := by subst hwb; exact (Mod.refl None w).alloc _
  have HP1 := hid (HP0.out.mod hmb (fun _ _ h => h))
  clear hwb HP0
  refine (awake2_any _).mono ?_
  rintro e w1 ⟨rfl, hm⟩
  have HK := hid (hm.blk hbk (fun h => h))
  have HM := hid (hmb.trans hm)
  have HP := hid (HP1.out.mod hm (fun _ _ h => h))
  clear hm hmb hbk HP1
  have g0 := HK.out.cell 0
  have g1 := HK.out.cell 1
  have g2 := HK.out.cell 2
  have g3 := HK.out.cell 3
  simp only [List.getElem?_cons_zero, List.getElem?_cons_succ, B] at g0 g1 g2 g3
  have heq := eq_zeros q0 q1 q2 q3
  by_cases hz : (((q0.toNat : Int) == 0) && (((q1.toNat : Int) == 0) && (((q2.toNat : Int) == 0) && ((q3.toNat : Int) == 0)))) = true
  · simp only [hz] at heq
    clear hz
    go_wp2_with fail
    refine (awake2_any _).mono ?_
    rintro e w'' ⟨rfl, hm⟩
    have HM2 := hid hm; clear hm
    go_wp2_with fail
    go_ret
    exact ⟨rfl, (HM.out.trans HM2.out).below _ (Nat.le_refl _) (fun _ h => h.elim)⟩
  simp only [Bool.not_eq_true] at hz
  simp only [hz] at heq
  clear hz
  by_cases hbig : 1048576 < l0.length
  · have hbig' : (1048576 : Int) < (l0.length : Int) := by omega
    clear hl0
    go_wp2_with fail
    refine (awake2_any _).mono ?_
    rintro e w'' ⟨rfl, hm⟩
    have HM2 := hid hm; clear hm
    go_wp2_with fail
    go_ret
    exact ⟨rfl, (HM.out.trans HM2.out).below _ (Nat.le_refl _) (fun _ h => h.elim)⟩
  have hbig' : ¬ (1048576 : Int) < (l0.length : Int) := by omega
  have hrd : Rd w1 a0 l0 := by obtain ⟨_, _, e, h, _⟩ := HP.out; cases e; exact h
  have HRD := hid hrd
  clear hl0 hrd
  go_wp2_with (at_builtin; refine wpList_append_b2 rfl (.tmp 33) (.tmp 34) rfl w1.heap.size _ [] rfl (OwnB.nil _ _) a0 l0 _ _ rfl rfl HRD.out (by simp; omega) (Nat.le_refl _) l0 rfl l0.length rfl None w1 (Mod.refl _ _) (Nat.le_refl _) ?_; intro va vcap w2 HO HM2)
  clear g0 g1 g2 g3 heq
  obtain ⟨g, rest, rfl, _, hg, hblk⟩ := HO.out.opened (by omega)
  have HG := hid hg
  have hr0 : findRel at' l0 [q0, q1, q2, q3] g rest w2 w2 0 (.bool true) := ⟨by omega, by omega, by rw [oth_zero]; exact hblk, rfl, Mod.refl _ _⟩
  have HR0 := hid hr0
  have HK2 := hid (HM2.out.blk HK.out (fun h => h))
  have HRD2 := hid (HM2.out.rd HRD.out (fun _ _ h => h))
  have HLT := hid HK.out.lt
  clear hblk hg hr0 HK HRD
  go_wp2_with fail
  go_loopw [8, 9] (fun x i wr => ∃ k : Nat, i = .int .i64 k ∧ Hid (findRel at' l0 [q0, q1, q2, q3] g rest w2 wr k x)) (fun _ i _ => 4 - (intOf i).toNat)
  case atStart => exact ⟨0, rfl, HR0.out⟩
  case round =>
    obtain ⟨k, rfl, hr⟩ := hrel
    have hx := hr.out.2.2.2.1
    subst hx
    have hk4 := hr.out.1
    have hkl := hr.out.2.1
    clear HR0
    by_cases hlt : k < 4 ∧ at' + k < l0.length
    · obtain ⟨hlt4, hltl⟩ := hlt
      have hi1 : (k : Int) < 4 := by omega
      have hi2 : (k : Int) < (l0.length : Int) - (at' : Int) := by omega
      obtain ⟨hc1, hf1, hc2, hc3⟩ := find_cells (bb := w.heap.size) hr.out hlt4 hltl HK2.out (by have := HG.out; have := HLT.out; omega)
      generalize hz : allZ [q0, q1, q2, q3] k = z
      have HZ := hid hz
      clear hz
      generalize hl : l0[at' + k] = lb at hc1
      have HL := hid hl
      clear hl
      generalize hq : [q0, q1, q2, q3][k] = qb at hc2 hc3
      have HQ := hid hq
      clear hq
      go_wp2_with fail
      go_region
      have HS := hid (find_step hr.out hlt4 hltl HL.out HQ.out HZ.out)
      cases z
      · go_wp2
        go_roundw
        case rel => exact ⟨k + 1, by go_num, HS.out _ rfl⟩
        case measure => simp [intOf]; omega
      · go_wp2
        go_roundw
        case rel => exact ⟨k + 1, by go_num, HS.out _ (by rw [Bool.true_and, byte_zero])⟩
        case measure => simp [intOf]; omega
    · have he := find_end hr.out hlt
      have hlen : (oth l0 at' [q0, q1, q2, q3] k).length = l0.length := oth_length _ _ _ _
      have HRD3 := hid (he.2.2.rd HRD2.out (fun x hx => ?_))
      rotate_left
      · have h1 := HG.out
        have h2 := HLT.out
        rcases HRW.out with h | ⟨bb, oo, rfl, hc⟩
        · exfalso; simp at h; subst h; simp at hge
        · have h3 := RdV.lt (.inr ⟨bb, oo, rfl, hc⟩ : RdV w (some ⟨bb, oo, none⟩) (l0.map B)) (by intro h; simp at h; subst h; simp at hge)
          cases hx
          intro e
          have e' : bb = g := e
          omega
      have HM3 := hid he.2.2
      have HR3 := hid he.1
      have HE := hid he.2.1
      clear he hr
      generalize hz : allZ [q0, q1, q2, q3] k = z at HE ⊢
      clear hz
      generalize oth l0 at' [q0, q1, q2, q3] k = ot at *
      have hor : ((k : Int) < 4 ∧ ¬ ((k : Int) < (l0.length : Int) - (at' : Int))) ∨ ¬ (k : Int) < 4 := by omega
      have HMX := hid ((HM.out.trans HM2.out).then HM3.out (S := None) (fun i hi e => by have := HG.out; have := HLT.out; omega))
      clear HM3 HM2 HM HO HG hlt
      rcases hor with ⟨h4, hi2⟩ | h4
      all_goals
        go_wp2_with fail
        refine (sum_made _ [ot] _ _ _ rfl (by simp) rfl (by simp) (fun i hi => ?_) ot (by simp)).mono ?_
        · obtain rfl : i = 0 := by simpa using hi
          exact ⟨_, rfl, _, _, by rw [← hlen]; rfl, HR3.out, by show ot.length ≤ _; omega⟩
        rintro e w4 ⟨rfl, rfl⟩
        go_wp2_with fail
        refine (sum_made _ [l0] _ _ _ rfl (by simp) rfl (by simp) (fun i hi => ?_) l0 (by simp)).mono ?_
        · obtain rfl : i = 0 := by simpa using hi
          exact ⟨_, rfl, _, _, rfl, ((Mod.refl None _).alloc _).rd HRD3.out (fun _ _ h => h), by show l0.length ≤ _; omega⟩
        rintro e w5 ⟨rfl, rfl⟩
        go_wp2_with fail
        go_ret
        exact ⟨ret_bool (by rw [HE.out]; simp), ((HMX.out.alloc _).alloc _).below _ (Nat.le_refl _) (fun _ h => h.elim)⟩
end Go.Proofs.Ytdhhpnfdnoaihaa

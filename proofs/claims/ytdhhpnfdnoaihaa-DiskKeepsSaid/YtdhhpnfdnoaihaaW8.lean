/- The walk of DiskKeeps. -/
import Derived.Deep.RegionHeld3
import Derived.Test.YtdhhpnfdnoaihaaV2
import Derived.Test.YtdhhpnfdnoaihaaD10
import Derived.Test.YtdhhpnfdnoaihaaD12
import Derived.Test.YtdhhpnfdnoaihaaL2
namespace Go.Proofs.Ytdhhpnfdnoaihaa
open Go.RowKit

def kst (l : List UInt8) : DSt := ((DSt.new 2).write 1 l).1
theorem kst_eq (l : List UInt8) (hl : l.length ≤ 64) : kst l = { last := [zeros64, zeros64], waits := [(1, pad64 l)], armed := -1, down := false } := by
  have hm : (DSt.new 2).may 1 = 0 := by decide
  unfold kst DSt.write
  rw [if_pos hm, if_neg (by omega)]
  rfl
theorem kst_read (l : List UInt8) (hl : l.length ≤ 64) : (kst l).read 1 = (pad64 l, 0) := by rw [kst_eq l hl]; rfl
theorem kst_waits (l : List UInt8) (hl : l.length ≤ 64) : (kst l).waits.length = 1 := by rw [kst_eq l hl]; rfl
/-- n bytes in a block of their own -/
def RowOf (wr : World) (S : Nat → Prop) (t : TypeId) (va : Option Addr) (n : Nat) : Prop := n = 0 ∨ ∃ g rest m, va = some ⟨g, 0, none⟩ ∧ (m : List UInt8).length = n ∧ Blk wr g t (m.map B ++ rest) ∧ ¬ S g
def keepRel (w wr : World) (S : Nat → Prop) (p : Nat) (st : DSt) (t : TypeId) (va : Option Addr) (n : Nat) : Prop := Live w wr S p st ∧ RowOf wr S t va n
theorem keep_round {w wr : World} {S : Nat → Prop} {p : Nat} {st : DSt} {t : TypeId} {va : Option Addr} {n : Nat} (h : keepRel w wr S p st t va n) {k : Nat} (hk : k < n) :
    ∃ g, va = some ⟨g, 0, none⟩ ∧ (∃ b : UInt8, wr.cell? ⟨g, k, none⟩ = some (.int .u8 (b.toNat : Int))) ∧ wr.frozen? ⟨g, k, none⟩ = false ∧ w.heap.size ≤ wr.heap.size ∧
      ∀ x : UInt8, w.heap.size ≤ g → keepRel w (wr.setCell ⟨g, k, none⟩ (.int .u8 (x.toNat : Int))) S p st t va n := by
  obtain ⟨hl, rfl | ⟨g, rest, m, rfl, rfl, hb, hs⟩⟩ := h
  · omega
  · refine ⟨g, rfl, ⟨m[k], ?_⟩, hb.free k, hl.2.1.size, fun x hg => ?_⟩
    · rw [hb.cell, List.getElem?_append_left (by simpa using hk)]; simp [hk, B]
    · have hm : Mod (fun k => k = g) wr (wr.setCell ⟨g, k, none⟩ (.int .u8 (x.toNat : Int))) := Mod.set (S := fun k => k = g) (Mod.refl _ _) (.inl rfl) _
      refine ⟨⟨hl.1.keep hm (fun k hk e => hs (by rw [← e]; exact hk)), hl.2.1.then hm (fun i hi e => by omega), hl.2.2⟩, .inr ⟨g, rest, m.set k x, rfl, by simp, ?_, hs⟩⟩
      have := hb.set k (.int .u8 (x.toNat : Int))
      rw [List.set_append_left _ _ (by simpa using hk)] at this
      rw [List.map_set]; exact this

set_option maxRecDepth 100000 in
set_option maxHeartbeats 1600000 in
theorem DiskKeeps_walk (w : World) (v0 : Value) (l0 : List UInt8) (w0 : VBytes w v0 l0) :
    Calls Try.prog 10 #[v0] w fun e w' => e = .returned (.bool true) ∧ Below w.heap.size w w' := by
  obtain ⟨a0, c0, rfl, hl0, hrd⟩ := w0
  have HRD := hid hrd
  have HL0 := hid hl0
  clear hrd hl0
  by_cases hb : 64 < l0.length
  · have hb' : (64 : Int) < (l0.length : Int) := by omega
    clear hb
    go_enter Try.func10, Try.ntmps10
    go_wp2_with fail
    refine (live_new w w (Mod.refl _ _) 2 2 (by omega)).mono ?_
    rintro e w1 ⟨p, S, rfl, hl, _, _⟩
    have HL := hid hl
    clear hl
    go_wp2_with fail
    refine (awake3_any _).mono ?_
    rintro e w2 ⟨rfl, hm⟩
    have HL2 := hid (HL.out.step hm)
    clear HL hm
    go_wp2_with fail
    refine (awake3_any _).mono ?_
    rintro e w3 ⟨rfl, hm⟩
    have HM3 := hid (HL2.out.2.1.trans hm)
    clear hm
    go_wp2_with fail
    go_ret
    exact ⟨rfl, HM3.out.below _ (Nat.le_refl _) (fun _ h => h.elim)⟩
  have hb' : ¬ (64 : Int) < (l0.length : Int) := by omega
  have hb2 : l0.length ≤ 64 := by omega
  have HB := hid hb2
  clear hb
  go_enter Try.func10, Try.ntmps10
  go_wp2_with fail
  refine (live_new w w (Mod.refl _ _) 2 2 (by omega)).mono ?_
  rintro e w1 ⟨p, S, rfl, hl, _, _⟩
  have HL := hid hl
  clear hl
  go_wp2_with fail
  refine (awake3_any _).mono ?_
  rintro e w2 ⟨rfl, hm⟩
  have HL2 := hid (HL.out.step hm)
  clear HL hm
  go_wp2_with (at_builtin; go_loud (refine wpList_append_b2 rfl (.tmp 25) (.tmp 26) rfl w2.heap.size (.slice none 0 0) [] rfl (OwnB.nil _ _) a0 l0 _ _ rfl rfl (HL2.out.2.1.rd HRD.out (fun _ _ h => h)) (by have := HB.out; simp; omega) (Nat.le_refl _) l0 rfl l0.length rfl None w2 (Mod.refl _ _) (Nat.le_refl _) ?_); intro va vc w3 HO HM3)
  obtain ⟨ra, rc, hre, hrr⟩ := HO.out.rd
  obtain ⟨rfl, rfl⟩ : va = ra ∧ vc = rc := by simpa using hre
  have HRR := hid hrr
  have HVC := hid HO.out.cap
  clear hre hrr
  refine (live_write (HL2.out.step HM3.out) 1 va vc _ l0 rfl HRR.out HL0.out (by simp [DSt.new])).mono ?_
  rintro e w4 ⟨S4, rfl, hl, ht⟩
  have hrow : RowOf w4 S4 5 va l0.length := by
    rcases Nat.eq_zero_or_pos l0.length with h0 | h0
    · exact .inl h0
    · obtain ⟨g, rest, rfl, _, hg, hbk⟩ := HO.out.opened h0
      have hs2 : ¬ S g := fun hs => by have := HL2.out.lt g hs; omega
      exact .inr ⟨g, rest, l0, rfl, rfl, ht.mod.blk hbk hs2, fun hs => hs2 (ht.old g hbk.lt hs)⟩
  have hgw : ∀ g, va = some ⟨g, 0, none⟩ → w.heap.size ≤ g := fun g e => by
    subst e
    have := (HO.out.lt g rfl).1
    have := HL2.out.2.1.size
    omega
  have HKR : Hid (keepRel w w4 S4 p (kst l0) 5 va l0.length) := hid ⟨hl, hrow⟩
  have HGW := hid hgw
  clear hl ht hrow hgw HO HL2 HM3 HRR
  generalize ((DSt.new 2).write 1 l0).2 = r4
  have hvc := HVC.out
  go_wp2_with fail
  go_loopw [5] (fun i wr => ∃ k : Nat, k ≤ l0.length ∧ i = .int .i64 k ∧ Hid (keepRel w wr S4 p (kst l0) 5 va l0.length)) (fun i _ => l0.length - (intOf i).toNat)
  case atStart => exact ⟨0, by omega, rfl, HKR.out⟩
  case round =>
    obtain ⟨k, hk, rfl, hr⟩ := hrel
    by_cases hlt : k < l0.length
    · obtain ⟨g, rfl, ⟨b, hcell⟩, hfr, _, hnx⟩ := keep_round hr.out hlt
      have HNX := hid hnx
      clear hnx
      go_wp2_with fail
      have hx : ((b.toNat : Int) + 1) % 256 = ((b + 1).toNat : Int) := by
        rw [UInt8.toNat_add]; show _ = (((b.toNat + 1) % 256 : Nat) : Int); omega
      rw [hx]
      have HR2 := hid (HNX.out (b + 1) (HGW.out g rfl))
      go_roundw
      case rel => exact ⟨k + 1, by omega, by go_num, HR2.out⟩
      case measure => simp [intOf]; omega
    · obtain rfl : k = l0.length := by omega
      have HLV := hid hr.out.1
      clear hr HKR
      go_wp2_with fail
      refine (live_read HLV.out 1).mono ?_
      rw [kst_read l0 HB.out]
      unfold LRead
      have HP0 := hid (pad64_length l0 HB.out)
      rw [HP0.out]
      rintro e w5 ⟨a5, rfl, htold, hs, hl, hm⟩
      have hrow : ∃ q, a5 = some ⟨q, 0, none⟩ ∧ wr.heap.size ≤ q ∧ RowOf w5 S4 105 (some ⟨q, 0, none⟩) 64 := by
        rcases htold with ⟨_, h0⟩ | ⟨q, rfl, hq, hbk⟩
        · have h0' : pad64 l0 = [] := h0
          have := HP0.out
          rw [h0'] at this; exact absurd this (by decide)
        · refine ⟨q, rfl, hq, .inr ⟨q, [], pad64 l0, rfl, HP0.out, by rw [List.append_nil]; exact hbk, fun hk => ?_⟩⟩
          have := HLV.out.lt q hk; omega
      obtain ⟨q, rfl, hq, hrow⟩ := hrow
      have HQ := hid (show w.heap.size ≤ q from Nat.le_trans HLV.out.2.1.size hq)
      have HKR : Hid (keepRel w w5 S4 p (kst l0) 105 (some ⟨q, 0, none⟩) 64) := hid ⟨hl, hrow⟩
      clear htold hs hl hm hq hrow HLV
      go_wp2_with fail
      go_loopw [8] (fun i wr => ∃ k : Nat, k ≤ 64 ∧ i = .int .i64 k ∧ Hid (keepRel w wr S4 p (kst l0) 105 (some ⟨q, 0, none⟩) 64)) (fun i _ => 64 - (intOf i).toNat)
      case atStart => exact ⟨0, by omega, rfl, HKR.out⟩
      case round =>
        obtain ⟨k, hk, rfl, hr⟩ := hrel
        by_cases hlt : k < 64
        · obtain ⟨g, hg, ⟨b, hcell⟩, hfr, _, hnx⟩ := keep_round hr.out hlt
          obtain rfl : q = g := by simpa using hg
          have HNX := hid hnx
          clear hnx hg
          go_wp2_with fail
          have HR2 : Hid (keepRel w (_root_.Go.World.setCell _ ⟨q, k, none⟩ (.int .u8 238)) S4 p (kst l0) 105 (some ⟨q, 0, none⟩) 64) := hid (HNX.out 238 HQ.out)
          go_roundw
          case rel => exact ⟨k + 1, by omega, by go_num, HR2.out⟩
          case measure => simp [intOf]; omega
        · obtain rfl : k = 64 := by omega
          have HLV := hid hr.out.1
          clear hr HKR
          go_wp2_with fail
          have hroom : (kst l0).waits.length < 3000000000000 := by rw [kst_waits l0 HB.out]; omega
          have HROOM := hid hroom
          refine (dclone_any _ S4 p (kst l0) HLV.out.1 hroom).mono ?_
          rintro e w6 ⟨q2, T, rfl, hdc, hm, hT⟩
          have HT0 := hid hT
          have hL2 : Live w w6 T q2 (kst l0) := ⟨hdc, HLV.out.2.1.trans hm, fun k hk => Nat.le_trans HLV.out.2.1.size (hT k hk)⟩
          have hD : ∀ k, T k → ¬ S4 k := fun k hk hs => by have := hT k hk; have := HLV.out.lt k hs; omega
          have HC := hid hL2
          have HD := hid hD
          have HV6 := hid (HLV.out.step hm)
          clear hL2 hD hdc hm hT hroom HLV
          go_wp2_with fail
          have hm7 : Mod None w6 (w6.alloc (.cells #[.int .u8 119] 5)) := (Mod.refl None _).alloc _
          have HC7 := hid (HC.out.step hm7)
          refine (live_write (HV6.out.step hm7) 1 _ _ _ [119] rfl (rd_lit _ _ _ rfl _ _ rfl) (by decide) HROOM.out).mono ?_
          rintro e w8 ⟨S8, rfl, hl, ht⟩
          have hc8 := HC7.out.turn ht HD.out (fun k hk => HV6.out.2.2 k hk)
          have HC8 := hid hc8.1
          have HD8 := hid hc8.2
          have HV8 := hid hl
          clear hm7 hl ht hc8 HC7 HC HD HV6
          go_wp2_with fail
          refine (live_flush HV8.out).mono ?_
          rintro e w9 ⟨S9, rfl, hl, ht⟩
          have hc9 := HC8.out.turn ht HD8.out (fun k hk => HV8.out.2.2 k hk)
          have HC9 := hid hc9.1
          clear hl ht hc9 HC8 HD8 HV8
          go_wp2_with fail
          refine (live_read HC9.out 1).mono ?_
          rw [kst_read l0 HB.out]
          unfold LRead
          rw [HP0.out]
          rintro e w10 ⟨a10, rfl, _, hs, hl, _⟩
          have HRD10 := hid (hl.2.1.rd HRD.out (fun _ _ h => h))
          have HS10 := hid (fun w' (hm : Mod None w10 w') => str_rd (hm.rd hs.1 (fun _ _ h => h)) 64 64 HP0.out.symm)
          have HS8 := hid (fun w w' a (h : Fresh w w' a (pad64 l0)) => str_rd h.rd 64 64 HP0.out.symm)
          have HL10 := hid hl
          have HW1 := hid (kst_waits l0 HB.out)
          clear hl hs HC9
          unfold Str at HS10 HS8
          generalize (⟨(pad64 l0).toArray⟩ : ByteArray) = ss at *
          generalize kst l0 = ks at *
          have hc10 := HS10.out w10.drew (Mod.refl _ _).drew
          go_wp2_with fail
          refine wp_region_held_drew (S := fun w' => (convert 27 9 (.slice a10 64 64)).run Try.prog w' = .ok (.string ss) w') (by kernel_rfl) ?_ (fun hHeld => ?_)
          · first | exact hc10 | exact hc10'
          refine wpAnyH_take (i := 0) (oi := { dst := some 69, op := Op.move (Operand.tmp 7), type := 40, pos := "law.go:208", after := #[], guard := none }) (v := ?v0) rfl (by kernel_rfl) (by kernel_rfl) (by kernel_rfl) (fun _ _ _ h => h) (Or.inl ⟨by rfl, ?y0⟩) (by assumption) ?r0
          case y0 => (intro w hSw; (try dsimp only at hSw); go_simp; (try with_reducible rfl))
          try simp only [Act.put, List.setIfInBounds_toArray, List.set_cons_zero, List.set_cons_succ]
          refine wpAnyH_take (i := 1) (oi := { dst := some 70, op := Op.binOp BinOp.eql 40 (Operand.tmp 69) (Operand.const (Value.int IntKind.i64 0)) 40, type := 4, pos := "law.go:208", after := #[{ on := 0, ground := Ground.data }], guard := none }) (v := ?v1) rfl (by kernel_rfl) (by kernel_rfl) (by kernel_rfl) (fun _ _ _ h => h) (Or.inl ⟨by rfl, ?y1⟩) (by assumption) ?r1
          case y1 => (intro w hSw; (try dsimp only at hSw); go_simp; (try with_reducible rfl))
          try simp only [Act.put, List.setIfInBounds_toArray, List.set_cons_zero, List.set_cons_succ]
          refine wpAnyH_take (i := 2) (oi := { dst := some 71, op := Op.move (Operand.tmp 70), type := 4, pos := "law.go:208", after := #[{ on := 1, ground := Ground.data }], guard := none }) (v := ?v2) rfl (by kernel_rfl) (by kernel_rfl) (by kernel_rfl) (fun _ _ _ h => h) (Or.inl ⟨by rfl, ?y2⟩) (by assumption) ?r2
          case y2 => (intro w hSw; (try dsimp only at hSw); go_simp; (try with_reducible rfl))
          try simp only [Act.put, List.setIfInBounds_toArray, List.set_cons_zero, List.set_cons_succ]
          refine wpAnyH_take (i := 3) (oi := { dst := some 72, op := Op.move (Operand.tmp 11), type := 40, pos := "law.go:208", after := #[{ on := 2, ground := Ground.guard }], guard := some (2, true) }) (v := ?v3) rfl (by kernel_rfl) (by kernel_rfl) (by kernel_rfl) (fun _ _ _ h => h) (Or.inl ⟨by rfl, ?y3⟩) (by assumption) ?r3
          case y3 => (intro w hSw; (try dsimp only at hSw); go_simp; (try with_reducible rfl))
          try simp only [Act.put, List.setIfInBounds_toArray, List.set_cons_zero, List.set_cons_succ]
          refine wpAnyH_take (i := 4) (oi := { dst := some 73, op := Op.binOp BinOp.eql 40 (Operand.tmp 72) (Operand.const (Value.int IntKind.i64 0)) 40, type := 4, pos := "law.go:208", after := #[{ on := 3, ground := Ground.data }, { on := 2, ground := Ground.guard }], guard := some (2, true) }) (v := ?v4) rfl (by kernel_rfl) (by kernel_rfl) (by kernel_rfl) (fun _ _ _ h => h) (Or.inl ⟨by rfl, ?y4⟩) (by assumption) ?r4
          case y4 => (intro w hSw; (try dsimp only at hSw); go_simp; (try with_reducible rfl))
          try simp only [Act.put, List.setIfInBounds_toArray, List.set_cons_zero, List.set_cons_succ]
          refine wpAnyH_take (i := 5) (oi := { dst := some 74, op := Op.pick (Operand.tmp 71) (Operand.tmp 73) (Operand.const (Value.bool false)), type := 4, pos := "law.go:208", after := #[{ on := 2, ground := Ground.data }, { on := 4, ground := Ground.data }], guard := none }) (v := ?v5) rfl (by kernel_rfl) (by kernel_rfl) (by kernel_rfl) (fun _ _ _ h => h) (Or.inl ⟨by rfl, ?y5⟩) (by assumption) ?r5
          case y5 => (intro w hSw; (try dsimp only at hSw); go_simp; (try with_reducible rfl))
          try simp only [Act.put, List.setIfInBounds_toArray, List.set_cons_zero, List.set_cons_succ]
          refine wpAnyH_take (i := 6) (oi := { dst := some 75, op := Op.move (Operand.tmp 74), type := 4, pos := "law.go:208", after := #[{ on := 5, ground := Ground.data }, { on := 2, ground := Ground.chain }], guard := none }) (v := ?v6) rfl (by kernel_rfl) (by kernel_rfl) (by kernel_rfl) (fun _ _ _ h => h) (Or.inl ⟨by rfl, ?y6⟩) (by assumption) ?r6
          case y6 => (intro w hSw; (try dsimp only at hSw); go_simp; (try with_reducible rfl))
          try simp only [Act.put, List.setIfInBounds_toArray, List.set_cons_zero, List.set_cons_succ]
          refine wpAnyH_take (i := 7) (oi := { dst := some 76, op := Op.move (Operand.tmp 10), type := 27, pos := "law.go:208", after := #[{ on := 6, ground := Ground.guard }], guard := some (6, true) }) (v := ?v7) rfl (by kernel_rfl) (by kernel_rfl) (by kernel_rfl) (fun _ _ _ h => h) (Or.inl ⟨by rfl, ?y7⟩) (by assumption) ?r7
          case y7 => (intro w hSw; (try dsimp only at hSw); go_simp; (try with_reducible rfl))
          try simp only [Act.put, List.setIfInBounds_toArray, List.set_cons_zero, List.set_cons_succ]
          refine wpAnyH_take (i := 8) (oi := { dst := some 77, op := Op.convert 27 9 (Operand.tmp 76), type := 9, pos := "law.go:208", after := #[{ on := 7, ground := Ground.data }, { on := 6, ground := Ground.guard }], guard := some (6, true) }) (v := ?v8) rfl (by kernel_rfl) (by kernel_rfl) (by kernel_rfl) (fun _ _ _ h => h) (Or.inl ⟨by rfl, ?y8⟩) (by assumption) ?r8
          case y8 => (intro w hSw; (try dsimp only at hSw); go_simp; (try with_reducible rfl))
          try simp only [Act.put, List.setIfInBounds_toArray, List.set_cons_zero, List.set_cons_succ]
          refine wpAnyH_take (i := 9) (oi := { dst := some 78, op := Op.move (Operand.tmp 0), type := 27, pos := "law.go:208", after := #[{ on := 6, ground := Ground.guard }], guard := some (6, true) }) (v := ?v9) rfl (by kernel_rfl) (by kernel_rfl) (by kernel_rfl) (fun _ _ _ h => h) (Or.inl ⟨by rfl, ?y9⟩) (by assumption) ?r9
          case y9 => (intro w hSw; (try dsimp only at hSw); go_simp; (try with_reducible rfl))
          try simp only [Act.put, List.setIfInBounds_toArray, List.set_cons_zero, List.set_cons_succ]
          refine wpAnyH_ready (rs := [10]) (by kernel_rfl) (by simp) ?_
          refine AllReadyH.cons (o := { dst := some 79, op := Op.call { callee := Callee.value (Operand.func 34), args := #[Operand.tmp 78], argTypes := #[27] }, type := 27, pos := "law.go:208", after := #[{ on := 9, ground := Ground.data }, { on := 6, ground := Ground.chain }, { on := 6, ground := Ground.guard }], guard := some (6, true) }) rfl (fun K hK => ?_) AllReadyH.nil
          go_simp; refine (whole_any w10.drew a0 c0 l0 HRD10.out HB.out).mono ?_; rintro e w11 ⟨a11, rfl, hf, hm⟩; have hc10' := HS10.out w11 ((Mod.refl _ _).drew.trans hm); have hc11 := HS8.out _ _ _ hf; have HL11 := hid ((HL10.out.drew).step hm); clear hf hm; go_wp2_with fail
          refine hK.out _ _ ?_ (fun hHeld => ?_)
          · first | exact hc10 | exact hc10'
          clear hK K
          try simp only [Act.put, List.setIfInBounds_toArray, List.set_cons_zero, List.set_cons_succ]
          refine wpAnyH_ready (rs := [11]) (by kernel_rfl) (by simp) ?_
          refine AllReadyH.cons (o := { dst := some 80, op := Op.convert 27 9 (Operand.tmp 79), type := 9, pos := "law.go:208", after := #[{ on := 10, ground := Ground.data }, { on := 6, ground := Ground.guard }], guard := some (6, true) }) rfl (fun K hK => ?_) AllReadyH.nil
          go_simp
          refine hK.out _ _ ?_ (fun hHeld => ?_)
          · first | exact hc10 | exact hc10'
          clear hK K
          try simp only [Act.put, List.setIfInBounds_toArray, List.set_cons_zero, List.set_cons_succ]
          refine wpAnyH_take (i := 12) (oi := { dst := some 81, op := Op.binOp BinOp.eql 9 (Operand.tmp 77) (Operand.tmp 80) 9, type := 4, pos := "law.go:208", after := #[{ on := 8, ground := Ground.data }, { on := 11, ground := Ground.data }, { on := 6, ground := Ground.guard }], guard := some (6, true) }) (v := ?v12) rfl (by kernel_rfl) (by kernel_rfl) (by kernel_rfl) (fun _ _ _ h => h) (Or.inl ⟨by rfl, ?y12⟩) (by assumption) ?r12
          case y12 => (intro w hSw; (try dsimp only at hSw); go_simp; (try with_reducible rfl))
          try simp only [Act.put, List.setIfInBounds_toArray, List.set_cons_zero, List.set_cons_succ]
          refine wpAnyH_take (i := 13) (oi := { dst := some 82, op := Op.pick (Operand.tmp 75) (Operand.tmp 81) (Operand.const (Value.bool false)), type := 4, pos := "law.go:208", after := #[{ on := 6, ground := Ground.data }, { on := 12, ground := Ground.data }], guard := none }) (v := ?v13) rfl (by kernel_rfl) (by kernel_rfl) (by kernel_rfl) (fun _ _ _ h => h) (Or.inl ⟨by rfl, ?y13⟩) (by assumption) ?r13
          case y13 => (intro w hSw; (try dsimp only at hSw); go_simp; (try with_reducible rfl))
          try simp only [Act.put, List.setIfInBounds_toArray, List.set_cons_zero, List.set_cons_succ]
          refine wpAnyH_take (i := 14) (oi := { dst := some 83, op := Op.move (Operand.tmp 82), type := 4, pos := "law.go:208", after := #[{ on := 13, ground := Ground.data }, { on := 10, ground := Ground.chain }], guard := none }) (v := ?v14) rfl (by kernel_rfl) (by kernel_rfl) (by kernel_rfl) (fun _ _ _ h => h) (Or.inl ⟨by rfl, ?y14⟩) (by assumption) ?r14
          case y14 => (intro w hSw; (try dsimp only at hSw); go_simp; (try with_reducible rfl))
          try simp only [Act.put, List.setIfInBounds_toArray, List.set_cons_zero, List.set_cons_succ]
          refine wpAnyH_take (i := 15) (oi := { dst := some 84, op := Op.move (Operand.tmp 9), type := 37, pos := "law.go:208", after := #[{ on := 14, ground := Ground.guard }], guard := some (14, true) }) (v := ?v15) rfl (by kernel_rfl) (by kernel_rfl) (by kernel_rfl) (fun _ _ _ h => h) (Or.inl ⟨by rfl, ?y15⟩) (by assumption) ?r15
          case y15 => (intro w hSw; (try dsimp only at hSw); go_simp; (try with_reducible rfl))
          try simp only [Act.put, List.setIfInBounds_toArray, List.set_cons_zero, List.set_cons_succ]
          refine wpAnyH_ready (rs := [16]) (by kernel_rfl) (by simp) ?_
          refine AllReadyH.cons (o := { dst := some 85, op := Op.call { callee := Callee.value (Operand.func 36), args := #[Operand.tmp 84], argTypes := #[37] }, type := 3, pos := "law.go:208", after := #[{ on := 15, ground := Ground.data }, { on := 14, ground := Ground.chain }, { on := 14, ground := Ground.guard }], guard := some (14, true) }) rfl (fun K hK => ?_) AllReadyH.nil
          go_simp; refine (live_waits HL11.out).mono ?_; rintro e w12 ⟨rfl, rfl⟩; rw [HW1.out]; go_wp2_with fail
          refine hK.out _ _ ?_ (fun hHeld => ?_)
          · first | exact hc10 | exact hc10'
          clear hK K
          try simp only [Act.put, List.setIfInBounds_toArray, List.set_cons_zero, List.set_cons_succ]
          refine wpAnyH_take (i := 17) (oi := { dst := some 86, op := Op.binOp BinOp.eql 3 (Operand.tmp 85) (Operand.const (Value.int IntKind.i64 1)) 3, type := 4, pos := "law.go:208", after := #[{ on := 16, ground := Ground.data }, { on := 14, ground := Ground.guard }], guard := some (14, true) }) (v := ?v17) rfl (by kernel_rfl) (by kernel_rfl) (by kernel_rfl) (fun _ _ _ h => h) (Or.inl ⟨by rfl, ?y17⟩) (by assumption) ?r17
          case y17 => (intro w hSw; (try dsimp only at hSw); go_simp; (try with_reducible rfl))
          try simp only [Act.put, List.setIfInBounds_toArray, List.set_cons_zero, List.set_cons_succ]
          refine wpAnyH_take (i := 18) (oi := { dst := some 87, op := Op.pick (Operand.tmp 83) (Operand.tmp 86) (Operand.const (Value.bool false)), type := 4, pos := "law.go:208", after := #[{ on := 14, ground := Ground.data }, { on := 17, ground := Ground.data }], guard := none }) (v := ?v18) rfl (by kernel_rfl) (by kernel_rfl) (by kernel_rfl) (fun _ _ _ h => h) (Or.inl ⟨by rfl, ?y18⟩) (by assumption) ?r18
          case y18 => (intro w hSw; (try dsimp only at hSw); go_simp; (try with_reducible rfl))
          try simp only [Act.put, List.setIfInBounds_toArray, List.set_cons_zero, List.set_cons_succ]
          refine wpAnyH_take (i := 19) (oi := { dst := some 2, op := Op.assign (Operand.tmp 87), type := 4, pos := "law.go:208", after := #[{ on := 18, ground := Ground.data }, { on := 16, ground := Ground.chain }, { on := 0, ground := Ground.phase }, { on := 1, ground := Ground.phase }, { on := 2, ground := Ground.phase }, { on := 3, ground := Ground.phase }, { on := 4, ground := Ground.phase }, { on := 5, ground := Ground.phase }, { on := 6, ground := Ground.phase }, { on := 7, ground := Ground.phase }, { on := 8, ground := Ground.phase }, { on := 9, ground := Ground.phase }, { on := 10, ground := Ground.phase }, { on := 11, ground := Ground.phase }, { on := 12, ground := Ground.phase }, { on := 13, ground := Ground.phase }, { on := 14, ground := Ground.phase }, { on := 15, ground := Ground.phase }, { on := 16, ground := Ground.phase }, { on := 17, ground := Ground.phase }, { on := 18, ground := Ground.phase }], guard := none }) (v := ?v19) rfl (by kernel_rfl) (by kernel_rfl) (by kernel_rfl) (fun _ _ _ h => h) (Or.inl ⟨by rfl, ?y19⟩) (by assumption) ?r19
          case y19 => (intro w hSw; (try dsimp only at hSw); go_simp; (try with_reducible rfl))
          try simp only [Act.put, List.setIfInBounds_toArray, List.set_cons_zero, List.set_cons_succ]
          refine wpAnyH_done (by kernel_rfl) ?_ _
          go_wp2_with fail
          go_ret
          exact ⟨rfl, HL11.out.2.1.below _ (Nat.le_refl _) (fun _ h => h.elim)⟩
end Go.Proofs.Ytdhhpnfdnoaihaa

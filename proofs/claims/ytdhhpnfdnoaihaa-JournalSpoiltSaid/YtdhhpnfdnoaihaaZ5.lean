import Derived.Test.YtdhhpnfdnoaihaaZ4
/-! J10 -/
/- A journal's Append, down or not. -/
namespace Go.Proofs.Ytdhhpnfdnoaihaa
open Go.RowKit

theorem append_down {st : DSt} (h : st.down = true) (fr en : Nat) (b : List UInt8) : st.append fr en b = (st, 32) := by
  have hw : ∀ (i : Int) (d : List UInt8), st.write i d = (st, 32) := fun i d => by unfold DSt.write DSt.may; rw [h]; rfl
  have hne : jall st fr en b ≠ [] := fun e => by
    have := congrArg List.length e
    unfold jall at this
    rw [List.length_append, frameL_len] at this
    simp at this
  have hr : wrs ((jall st fr en b).length + 1) st (fr + en / 64) (jall st fr en b) = (st, 32) := by
    unfold wrs
    rw [if_neg hne, hw, if_neg (show ¬ (32 : Int) = 0 by decide)]
  unfold DSt.append
  rw [hr]; rfl
theorem lread_none {w0 w : World} {S : Nat → Prop} {p : Nat} {st : DSt} {i n : Int} (h : Calls Try.prog 33 #[.pointer (some ⟨p, 0, none⟩), .int .i64 i] w (LRead w0 w S p st ([], n))) :
    Calls Try.prog 33 #[.pointer (some ⟨p, 0, none⟩), .int .i64 i] w fun e w' => ∃ a, e = .returned (.tuple #[.slice a 0 0, .int .i64 n]) ∧ Mod None w w' :=
  h.mono fun e w' ⟨a, he, ht, _, _, hm⟩ => ⟨a, by rw [he]; rfl, hm⟩
set_option maxRecDepth 100000 in
set_option maxHeartbeats 1500000 in
theorem append_any (w0 w : World) (S : Nat → Prop) (p j : Nat) (st : DSt) (h : Live w0 w S p st) (fr to en ct : Nat) (hj : IsJ w j p fr to en ct) (hjS : ¬ S j) (hj0 : w0.heap.size ≤ j) (a : Option Addr) (c : Nat) (b : List UInt8) (hr : Rd w a b) 
    (hf : fr ≤ to ∧ to ≤ st.last.length) (hl : b.length ≤ 1048576) (hroom : en + b.length + 16 ≤ (to - fr) * 64) (hen : en ≤ 4194304) (hctb : ct ≤ 100000000) (hws : st.waits.length ≤ 2990000000000) :
    Calls Try.prog 47 #[.pointer (some ⟨j, 0, none⟩), .slice a b.length c] w (APost w0 w S p j fr to en ct b.length (st.append fr en b)) := by
  have HLT := hid h.lt
  have HNW := hid h.2.2
  have HW0 := hid h.2.1.size
  have HJL := hid hj.lt
  have hok := h.ok
  have hmost := hok.most
  have hlen : ¬ (1048576 : Int) < (b.length : Int) := by omega
  have hfi : (0 : Int) ≤ fr ∧ (fr : Int) ≤ to ∧ (to : Int) ≤ 65536 := by omega
  have hlt : ¬ ((to : Int) - fr) * 64 - en < (b.length : Int) + 16 := by omega
  have hw1 : IntKind.i64.wrap (((to : Int) - fr) * 64 - en) = ((to : Int) - fr) * 64 - en := wrap_in _ (by omega)
  have hm0 : Mod None w ((w.alloc (.cells #[.pointer (some ⟨j, 0, none⟩)] 62)).alloc (.cells #[.int .i64 0] 40)) := ((Mod.refl _ _).alloc _).alloc _
  obtain ⟨W, hW⟩ : ∃ W, W = (w.alloc (.cells #[.pointer (some ⟨j, 0, none⟩)] 62)).alloc (.cells #[.int .i64 0] 40) := ⟨_, rfl⟩
  rw [← hW] at hm0
  have hjw : IsJ W j p fr to en ct := hm0.blk hj (fun h => h)
  obtain ⟨_, _, _, h3, _⟩ := hjw.cells
  have hbx : Blk W w.heap.size 62 [.pointer (some ⟨j, 0, none⟩)] := by rw [hW]; exact (Blk.new w 62 _).alloc _
  have hrb : Blk W (w.heap.size + 1) 40 [.int .i64 0] := by
    have := Blk.new (w.alloc (.cells #[.pointer (some ⟨j, 0, none⟩)] 62)) 40 #[.int .i64 0]
    simp only [World.size_alloc] at this
    rw [hW]; exact this
  have hbx0 : W.cell? ⟨w.heap.size, 0, none⟩ = some (.pointer (some ⟨j, 0, none⟩)) := hbx.is rfl
  have HWS := hid (show W.heap.size = w.heap.size + 2 by rw [hW]; simp)
  have HM := hid hm0
  have HBX := hid hbx
  have HRB := hid hrb
  have HJ := hid hjw
  have HLV := hid (h.step hm0)
  have HR := hid (hm0.rd hr (fun _ _ h => h))
  have HQ := hid (fun m => room_quiet hjw hfi m)
  have HX := hid (And.intro hf (And.intro hroom (And.intro hws hmost)))
  generalize hRR : ((to : Int) - fr) * 64 = R at *
  clear hRR hfi hf hroom hbx hrb hjw hj hm0 hr h hws
  refine (callsIn_wide (n := 5)).1 (callsIn_of_wp_marks Try.func47 rfl trivial (wpIn_wide.2 ?_))
  simp only [Try.ntmps47, List.size_toArray, List.length_cons, List.length_nil, Nat.reduceAdd, Nat.reduceSub, Array.replicate_succ, Array.replicate_zero, List.push_toArray, List.append_toArray, List.nil_append, List.cons_append]
  go_wp2_with fail
  rw [← hW]
  clear hW
  go_quiet (first | (go_at_call 74; exact HQ.out _))
  clear hw1 HQ
  rename_i nq
  go_wp2_with fail
  refine (frame_any (W.drewN nq) a c b HR.out hl).mono ?_
  rintro e W1 ⟨fa, fc, rfl, hfo, hfm⟩
  have HFO := hid hfo
  have HFM := hid ((mod_drewN W nq).trans hfm)
  have hbx1 : W1.cell? ⟨w.heap.size, 0, none⟩ = some (.pointer (some ⟨j, 0, none⟩)) := (HFM.out.blk HBX.out (fun h => h)).is rfl
  have hen1 : W1.cell? ⟨j, 3, none⟩ = some (.int .i64 (en : Int)) := Blk.is (HFM.out.blk HJ.out (fun h => h)) rfl
  rw [frameL_len] at *
  have HFL := hid (frameL_len b)
  clear hfo hfm h3 hbx0
  generalize hbl : b.length = bl at *
  go_upto_if 51 with (fail)
  have HC0 := hid (cut_of HFO.out (by rw [HFL.out]; omega) HFM.out)
  clear HFO
  have HRNG := hid (show fr + en / 64 < st.last.length by have := HX.out; omega)
  obtain ⟨pt, hpt⟩ : ∃ pt : Nat, (en : Int) - (en : Int) / 64 * 64 = (pt : Int) := ⟨en % 64, by omega⟩
  have HPT := hid (show pt = en % 64 by omega)
  rw [hpt]
  clear hpt
  obtain ⟨ix, hix⟩ : ∃ ix : Nat, (en : Int) / 64 = (ix : Int) := ⟨en / 64, by omega⟩
  have HIX := hid (show ix = en / 64 by omega)
  rw [hix]
  have hix2 : (ix : Int) * 64 / 64 = (ix : Int) := by omega
  have hixb : ix ≤ 65536 := by omega
  clear hix
  go_cut [6, 9, 10] from 50 (fun f o e wc => ∃ fa fc, f = .slice fa (jall st fr en b).length fc ∧ Hid (cutRel W wc fa fc (jall st fr en b)))
  case first =>
    by_cases hp : 0 < pt
    · have hp1 : (ix : Int) * 64 < (en : Int) := by have := HPT.out; have := HIX.out; omega
      have hj0 : W1.cell? ⟨j, 0, none⟩ = some (.pointer (some ⟨p, 0, none⟩)) := Blk.is (HFM.out.blk HJ.out (fun h => h)) rfl
      have hj1 : W1.cell? ⟨j, 1, none⟩ = some (.int .i64 (fr : Int)) := Blk.is (HFM.out.blk HJ.out (fun h => h)) rfl
      have HLR := hid (live_read (HLV.out.step (HFM.out.trans (Mod.refl None W1).drew)) ((fr : Int) + (ix : Int)))
      cases hdn : st.down
      case false =>
        have hst : st.read ((fr : Int) + (ix : Int)) = (readTo st.waits (fr + ix) (st.last.getD (fr + ix) []), 0) := by
          have hlt := HRNG.out
          rw [← HIX.out] at hlt
          unfold DSt.read DSt.may
          rw [hdn]
          have h1 : ¬ ((fr : Int) + (ix : Int) < 0 ∨ (st.last.length : Int) ≤ (fr : Int) + (ix : Int)) := by omega
          have h2 : ((fr : Int) + (ix : Int)).toNat = fr + ix := by omega
          simp [h1, h2]
        have hol : (readTo st.waits (fr + ix) (st.last.getD (fr + ix) [])).length = 64 := read_len hok (by have := HRNG.out; rw [← HIX.out] at this; exact this)
        have HJA := hid (show jall st fr en b = (readTo st.waits (fr + ix) (st.last.getD (fr + ix) [])).take pt ++ frameL b by
          unfold jall jpart
          rw [← HPT.out, ← HIX.out, if_pos hp, show ((fr + ix : Nat) : Int) = (fr : Int) + (ix : Int) by omega, hst])
        rw [hst] at HLR
        have HLR := hid (lread_old (HLR.out) hol)
        clear hst
        generalize readTo st.waits (fr + ix) (st.last.getD (fr + ix) []) = old at *
        have HOL := hid hol
        have hpt64 : pt ≤ 64 := by have := HPT.out; omega
        have hwi1 : IntKind.i64.wrap (ix : Int) = ix := wrap_in _ (by omega)
        have hwi2 : IntKind.i64.wrap ((fr : Int) + (ix : Int)) = (fr : Int) + (ix : Int) := wrap_in _ (by have := HRNG.out; omega)
        go_wp2_with fail
        refine wp_region_noPanic ?_
        refine wp_region_held_drew (S := fun w' => w'.cell? ⟨w.heap.size, 0, none⟩ = some (.pointer (some ⟨j, 0, none⟩)) ∧ w'.cell? ⟨j, 0, none⟩ = some (.pointer (some ⟨p, 0, none⟩)) ∧ w'.cell? ⟨j, 1, none⟩ = some (.int .i64 (fr : Int))) (by kernel_rfl) ?_ (fun hHeld => ?_)
        · first | exact ⟨k1, k2, k3⟩ | exact ⟨hbx1, hj0, hj1⟩
        refine wpAnyH_take (i := 0) (oi := { dst := some 53, op := Op.load 62 (Operand.tmp 2), type := 62, pos := "journal.go:103", after := #[], guard := none }) (v := ?vo1_0) rfl (by kernel_rfl) (by kernel_rfl) (by kernel_rfl) (fun _ _ _ h => h) (Or.inl ⟨by rfl, ?yo1_0⟩) (by assumption) ?ro1_0
        case yo1_0 => (intro w hSw; (try dsimp only at hSw); go_simp; (try with_reducible rfl))
        try simp only [Act.put, List.setIfInBounds_toArray, List.set_cons_zero, List.set_cons_succ]
        refine wpAnyH_take (i := 1) (oi := { dst := some 54, op := Op.nilCheck (Operand.tmp 53), type := 0, pos := "journal.go:103", after := #[{ on := 0, ground := Ground.data }], guard := none }) (v := ?vo2_1) rfl (by kernel_rfl) (by kernel_rfl) (by kernel_rfl) (fun _ _ _ h => h) (Or.inl ⟨by rfl, ?yo2_1⟩) (by assumption) ?ro2_1
        case yo2_1 => (intro w hSw; (try dsimp only at hSw); go_simp; (try with_reducible rfl))
        try simp only [Act.put, List.setIfInBounds_toArray, List.set_cons_zero, List.set_cons_succ]
        refine wpAnyH_take (i := 2) (oi := { dst := some 55, op := Op.fieldAddr 118 (Operand.tmp 54) 0, type := 0, pos := "journal.go:103", after := #[{ on := 1, ground := Ground.data }], guard := none }) (v := ?vo3_2) rfl (by kernel_rfl) (by kernel_rfl) (by kernel_rfl) (fun _ _ _ h => h) (Or.inl ⟨by rfl, ?yo3_2⟩) (by assumption) ?ro3_2
        case yo3_2 => (intro w hSw; (try dsimp only at hSw); go_simp; (try with_reducible rfl))
        try simp only [Act.put, List.setIfInBounds_toArray, List.set_cons_zero, List.set_cons_succ]
        refine wpAnyH_take (i := 3) (oi := { dst := some 56, op := Op.load 37 (Operand.tmp 55), type := 37, pos := "journal.go:103", after := #[{ on := 2, ground := Ground.data }], guard := none }) (v := ?vo4_3) rfl (by kernel_rfl) (by kernel_rfl) (by kernel_rfl) (fun _ _ _ h => h) (Or.inl ⟨by rfl, ?yo4_3⟩) (by assumption) ?ro4_3
        case yo4_3 => (intro w hSw; (try dsimp only at hSw); go_simp; (try with_reducible rfl))
        try simp only [Act.put, List.setIfInBounds_toArray, List.set_cons_zero, List.set_cons_succ]
        refine wpAnyH_take (i := 4) (oi := { dst := some 57, op := Op.load 62 (Operand.tmp 2), type := 62, pos := "journal.go:103", after := #[], guard := none }) (v := ?vo5_4) rfl (by kernel_rfl) (by kernel_rfl) (by kernel_rfl) (fun _ _ _ h => h) (Or.inl ⟨by rfl, ?yo5_4⟩) (by assumption) ?ro5_4
        case yo5_4 => (intro w hSw; (try dsimp only at hSw); go_simp; (try with_reducible rfl))
        try simp only [Act.put, List.setIfInBounds_toArray, List.set_cons_zero, List.set_cons_succ]
        refine wpAnyH_take (i := 5) (oi := { dst := some 58, op := Op.nilCheck (Operand.tmp 57), type := 0, pos := "journal.go:103", after := #[{ on := 4, ground := Ground.data }], guard := none }) (v := ?vo6_5) rfl (by kernel_rfl) (by kernel_rfl) (by kernel_rfl) (fun _ _ _ h => h) (Or.inl ⟨by rfl, ?yo6_5⟩) (by assumption) ?ro6_5
        case yo6_5 => (intro w hSw; (try dsimp only at hSw); go_simp; (try with_reducible rfl))
        try simp only [Act.put, List.setIfInBounds_toArray, List.set_cons_zero, List.set_cons_succ]
        refine wpAnyH_take (i := 6) (oi := { dst := some 59, op := Op.fieldAddr 118 (Operand.tmp 58) 1, type := 0, pos := "journal.go:103", after := #[{ on := 5, ground := Ground.data }], guard := none }) (v := ?vo7_6) rfl (by kernel_rfl) (by kernel_rfl) (by kernel_rfl) (fun _ _ _ h => h) (Or.inl ⟨by rfl, ?yo7_6⟩) (by assumption) ?ro7_6
        case yo7_6 => (intro w hSw; (try dsimp only at hSw); go_simp; (try with_reducible rfl))
        try simp only [Act.put, List.setIfInBounds_toArray, List.set_cons_zero, List.set_cons_succ]
        refine wpAnyH_take (i := 7) (oi := { dst := some 60, op := Op.load 3 (Operand.tmp 59), type := 3, pos := "journal.go:103", after := #[{ on := 6, ground := Ground.data }], guard := none }) (v := ?vo8_7) rfl (by kernel_rfl) (by kernel_rfl) (by kernel_rfl) (fun _ _ _ h => h) (Or.inl ⟨by rfl, ?yo8_7⟩) (by assumption) ?ro8_7
        case yo8_7 => (intro w hSw; (try dsimp only at hSw); go_simp; (try with_reducible rfl))
        try simp only [Act.put, List.setIfInBounds_toArray, List.set_cons_zero, List.set_cons_succ]
        refine wpAnyH_take (i := 8) (oi := { dst := some 61, op := Op.move (Operand.tmp 5), type := 2, pos := "journal.go:103", after := #[], guard := none }) (v := ?vo9_8) rfl (by kernel_rfl) (by kernel_rfl) (by kernel_rfl) (fun _ _ _ h => h) (Or.inl ⟨by rfl, ?yo9_8⟩) (by assumption) ?ro9_8
        case yo9_8 => (intro w hSw; (try dsimp only at hSw); go_simp; (try with_reducible rfl))
        try simp only [Act.put, List.setIfInBounds_toArray, List.set_cons_zero, List.set_cons_succ]
        refine wpAnyH_take (i := 9) (oi := { dst := some 62, op := Op.binOp BinOp.quo 2 (Operand.tmp 61) (Operand.const (Value.int IntKind.i64 64)) 2, type := 2, pos := "journal.go:103", after := #[{ on := 8, ground := Ground.data }], guard := none }) (v := ?vo10_9) rfl (by kernel_rfl) (by kernel_rfl) (by kernel_rfl) (fun _ _ _ h => h) (Or.inl ⟨by rfl, ?yo10_9⟩) (by assumption) ?ro10_9
        case yo10_9 => (intro w hSw; (try dsimp only at hSw); go_simp; (try with_reducible rfl))
        try simp only [Act.put, List.setIfInBounds_toArray, List.set_cons_zero, List.set_cons_succ]
        refine wpAnyH_take (i := 10) (oi := { dst := some 63, op := Op.binOp BinOp.add 3 (Operand.tmp 60) (Operand.tmp 62) 3, type := 3, pos := "journal.go:103", after := #[{ on := 7, ground := Ground.data }, { on := 9, ground := Ground.data }], guard := none }) (v := ?vo11_10) rfl (by kernel_rfl) (by kernel_rfl) (by kernel_rfl) (fun _ _ _ h => h) (Or.inl ⟨by rfl, ?yo11_10⟩) (by assumption) ?ro11_10
        case yo11_10 => (intro w hSw; (try dsimp only at hSw); go_simp; (try with_reducible rfl))
        try simp only [Act.put, List.setIfInBounds_toArray, List.set_cons_zero, List.set_cons_succ]
        refine wpAnyH_ready (rs := [11]) (by kernel_rfl) (by simp) ?_
        refine AllReadyH.cons (o := { dst := some 64, op := Op.call { callee := Callee.value (Operand.func 33), args := #[Operand.tmp 56, Operand.tmp 63], argTypes := #[37, 3] }, type := 48, pos := "journal.go:103", after := #[{ on := 3, ground := Ground.data }, { on := 10, ground := Ground.data }], guard := none }) rfl (fun K hK => ?_) AllReadyH.nil
        go_simp; refine HLR.out.mono ?_; rintro e W2 ⟨oa, rfl, hro, hm2⟩; have k1 := (hm2.cell (p := ⟨w.heap.size, 0, none⟩) (World.block_lt_of_cell? W1 _ hbx1) (fun h => h)).trans hbx1; have k2 := (hm2.cell (p := ⟨j, 0, none⟩) (World.block_lt_of_cell? W1 _ hj0) (fun h => h)).trans hj0; have k3 := (hm2.cell (p := ⟨j, 1, none⟩) (World.block_lt_of_cell? W1 _ hj1) (fun h => h)).trans hj1; have HRO := hid hro; have HM2 := hid ((Mod.refl None W1).drew.trans hm2); clear hro hm2; go_wp2_with fail
        refine hK.out _ _ ?_ (fun hHeld => ?_)
        · first | exact ⟨k1, k2, k3⟩ | exact ⟨hbx1, hj0, hj1⟩
        clear hK K
        try simp only [Act.put, List.setIfInBounds_toArray, List.set_cons_zero, List.set_cons_succ]
        refine wpAnyH_take (i := 12) (oi := { dst := some 52, op := Op.move (Operand.tmp 64), type := 48, pos := "journal.go:103", after := #[{ on := 11, ground := Ground.data }], guard := none }) (v := ?vo12_12) rfl (by kernel_rfl) (by kernel_rfl) (by kernel_rfl) (fun _ _ _ h => h) (Or.inl ⟨by rfl, ?yo12_12⟩) (by assumption) ?ro12_12
        case yo12_12 => (intro w hSw; (try dsimp only at hSw); go_simp; (try with_reducible rfl))
        try simp only [Act.put, List.setIfInBounds_toArray, List.set_cons_zero, List.set_cons_succ]
        refine wpAnyH_take (i := 13) (oi := { dst := some 65, op := Op.extract (Operand.tmp 52) 0, type := 27, pos := "journal.go:103", after := #[{ on := 12, ground := Ground.data }], guard := none }) (v := ?vo13_13) rfl (by kernel_rfl) (by kernel_rfl) (by kernel_rfl) (fun _ _ _ h => h) (Or.inl ⟨by rfl, ?yo13_13⟩) (by assumption) ?ro13_13
        case yo13_13 => (intro w hSw; (try dsimp only at hSw); go_simp; (try with_reducible rfl))
        try simp only [Act.put, List.setIfInBounds_toArray, List.set_cons_zero, List.set_cons_succ]
        refine wpAnyH_take (i := 14) (oi := { dst := some 66, op := Op.extract (Operand.tmp 52) 1, type := 40, pos := "journal.go:103", after := #[{ on := 12, ground := Ground.data }, { on := 15, ground := Ground.gcOnly Departure.lateStores }], guard := none }) (v := ?vo14_14) rfl (by kernel_rfl) (by kernel_rfl) (by kernel_rfl) (fun _ _ _ h => h) (Or.inl ⟨by rfl, ?yo14_14⟩) (by assumption) ?ro14_14
        case yo14_14 => (intro w hSw; (try dsimp only at hSw); go_simp; (try with_reducible rfl))
        try simp only [Act.put, List.setIfInBounds_toArray, List.set_cons_zero, List.set_cons_succ]
        refine wpAnyH_take (i := 15) (oi := { dst := some 9, op := Op.assign (Operand.tmp 65), type := 27, pos := "journal.go:103", after := #[{ on := 13, ground := Ground.data }, { on := 11, ground := Ground.chain }, { on := 0, ground := Ground.phase }, { on := 1, ground := Ground.phase }, { on := 2, ground := Ground.phase }, { on := 3, ground := Ground.phase }, { on := 4, ground := Ground.phase }, { on := 5, ground := Ground.phase }, { on := 6, ground := Ground.phase }, { on := 7, ground := Ground.phase }, { on := 8, ground := Ground.phase }, { on := 9, ground := Ground.phase }, { on := 10, ground := Ground.phase }, { on := 11, ground := Ground.phase }, { on := 12, ground := Ground.phase }, { on := 13, ground := Ground.phase }, { on := 14, ground := Ground.textOnly Departure.lateStores }], guard := none }) (v := ?vo15_15) rfl (by kernel_rfl) (by kernel_rfl) (by kernel_rfl) (fun _ _ _ h => h) (Or.inl ⟨by rfl, ?yo15_15⟩) (by assumption) ?ro15_15
        case yo15_15 => (intro w hSw; (try dsimp only at hSw); go_simp; (try with_reducible rfl))
        try simp only [Act.put, List.setIfInBounds_toArray, List.set_cons_zero, List.set_cons_succ]
        refine wpAnyH_take (i := 16) (oi := { dst := some 10, op := Op.assign (Operand.tmp 66), type := 40, pos := "journal.go:103", after := #[{ on := 14, ground := Ground.data }, { on := 15, ground := Ground.chain }, { on := 0, ground := Ground.phase }, { on := 1, ground := Ground.phase }, { on := 2, ground := Ground.phase }, { on := 3, ground := Ground.phase }, { on := 4, ground := Ground.phase }, { on := 5, ground := Ground.phase }, { on := 6, ground := Ground.phase }, { on := 7, ground := Ground.phase }, { on := 8, ground := Ground.phase }, { on := 9, ground := Ground.phase }, { on := 10, ground := Ground.phase }, { on := 11, ground := Ground.phase }, { on := 12, ground := Ground.phase }, { on := 13, ground := Ground.phase }, { on := 14, ground := Ground.phase }, { on := 15, ground := Ground.phase }], guard := none }) (v := ?vo16_16) rfl (by kernel_rfl) (by kernel_rfl) (by kernel_rfl) (fun _ _ _ h => h) (Or.inl ⟨by rfl, ?yo16_16⟩) (by assumption) ?ro16_16
        case yo16_16 => (intro w hSw; (try dsimp only at hSw); go_simp; (try with_reducible rfl))
        try simp only [Act.put, List.setIfInBounds_toArray, List.set_cons_zero, List.set_cons_succ]
        refine wpAnyH_done (by kernel_rfl) ?_ _
        refine NoPanic.normal ?_
        clear k2 k3 hj0 hj1 HLR
        have HP := hid (parts2 W2 _ (.slice oa pt 64) (.slice fa (bl + 16) fc) rfl (old.take pt) (frameL b) ⟨oa, 64, by rw [List.length_take, HOL.out, Nat.min_eq_left hpt64], rd_take HRO.out pt, by rw [List.length_take, HOL.out]; omega⟩ ⟨fa, fc, by rw [HFL.out], cut_rd HC0.out HM2.out, by rw [HFL.out]; omega⟩ _ rfl)
        go_wp2_with fail
        refine (concat_any _ _ 2 [old.take pt, frameL b] HP.out (by simp) (by simp [HFL.out]; omega) (by simp [HFL.out, HOL.out]; omega)).mono ?_
        rintro e W3 ⟨ga, gc, rfl, ho, hm3⟩
        have hfl2 : [old.take pt, frameL b].flatten = jall st fr en b := by rw [HJA.out]; simp
        rw [hfl2] at ho ⊢
        have HO := hid (cut_back HC0.out HM2.out ho hm3 (by rw [HJA.out, List.length_append, HFL.out]; omega))
        clear ho hm3 hfl2 HP
        go_wp2_with fail
        go_meet
        case rel => exact ⟨ga, gc, rfl, HO.out⟩
      case true =>
        have hst : st.read ((fr : Int) + (ix : Int)) = ([], 32) := by unfold DSt.read DSt.may; rw [hdn]; rfl
        rw [hst] at HLR
        have HLR := hid (lread_none HLR.out)
        have HST := hid (append_down hdn fr en b)
        clear hst
        have hwi1 : IntKind.i64.wrap (ix : Int) = ix := wrap_in _ (by omega)
        have hwi2 : IntKind.i64.wrap ((fr : Int) + (ix : Int)) = (fr : Int) + (ix : Int) := wrap_in _ (by have := HRNG.out; omega)
        go_wp2_with fail
        refine wp_region_noPanic ?_
        refine wp_region_held_drew (S := fun w' => w'.cell? ⟨w.heap.size, 0, none⟩ = some (.pointer (some ⟨j, 0, none⟩)) ∧ w'.cell? ⟨j, 0, none⟩ = some (.pointer (some ⟨p, 0, none⟩)) ∧ w'.cell? ⟨j, 1, none⟩ = some (.int .i64 (fr : Int))) (by kernel_rfl) ?_ (fun hHeld => ?_)
        · first | exact ⟨k1, k2, k3⟩ | exact ⟨hbx1, hj0, hj1⟩
        refine wpAnyH_take (i := 0) (oi := { dst := some 53, op := Op.load 62 (Operand.tmp 2), type := 62, pos := "journal.go:103", after := #[], guard := none }) (v := ?vq1_0) rfl (by kernel_rfl) (by kernel_rfl) (by kernel_rfl) (fun _ _ _ h => h) (Or.inl ⟨by rfl, ?yq1_0⟩) (by assumption) ?rq1_0
        case yq1_0 => (intro w hSw; (try dsimp only at hSw); go_simp; (try with_reducible rfl))
        try simp only [Act.put, List.setIfInBounds_toArray, List.set_cons_zero, List.set_cons_succ]
        refine wpAnyH_take (i := 1) (oi := { dst := some 54, op := Op.nilCheck (Operand.tmp 53), type := 0, pos := "journal.go:103", after := #[{ on := 0, ground := Ground.data }], guard := none }) (v := ?vq2_1) rfl (by kernel_rfl) (by kernel_rfl) (by kernel_rfl) (fun _ _ _ h => h) (Or.inl ⟨by rfl, ?yq2_1⟩) (by assumption) ?rq2_1
        case yq2_1 => (intro w hSw; (try dsimp only at hSw); go_simp; (try with_reducible rfl))
        try simp only [Act.put, List.setIfInBounds_toArray, List.set_cons_zero, List.set_cons_succ]
        refine wpAnyH_take (i := 2) (oi := { dst := some 55, op := Op.fieldAddr 118 (Operand.tmp 54) 0, type := 0, pos := "journal.go:103", after := #[{ on := 1, ground := Ground.data }], guard := none }) (v := ?vq3_2) rfl (by kernel_rfl) (by kernel_rfl) (by kernel_rfl) (fun _ _ _ h => h) (Or.inl ⟨by rfl, ?yq3_2⟩) (by assumption) ?rq3_2
        case yq3_2 => (intro w hSw; (try dsimp only at hSw); go_simp; (try with_reducible rfl))
        try simp only [Act.put, List.setIfInBounds_toArray, List.set_cons_zero, List.set_cons_succ]
        refine wpAnyH_take (i := 3) (oi := { dst := some 56, op := Op.load 37 (Operand.tmp 55), type := 37, pos := "journal.go:103", after := #[{ on := 2, ground := Ground.data }], guard := none }) (v := ?vq4_3) rfl (by kernel_rfl) (by kernel_rfl) (by kernel_rfl) (fun _ _ _ h => h) (Or.inl ⟨by rfl, ?yq4_3⟩) (by assumption) ?rq4_3
        case yq4_3 => (intro w hSw; (try dsimp only at hSw); go_simp; (try with_reducible rfl))
        try simp only [Act.put, List.setIfInBounds_toArray, List.set_cons_zero, List.set_cons_succ]
        refine wpAnyH_take (i := 4) (oi := { dst := some 57, op := Op.load 62 (Operand.tmp 2), type := 62, pos := "journal.go:103", after := #[], guard := none }) (v := ?vq5_4) rfl (by kernel_rfl) (by kernel_rfl) (by kernel_rfl) (fun _ _ _ h => h) (Or.inl ⟨by rfl, ?yq5_4⟩) (by assumption) ?rq5_4
        case yq5_4 => (intro w hSw; (try dsimp only at hSw); go_simp; (try with_reducible rfl))
        try simp only [Act.put, List.setIfInBounds_toArray, List.set_cons_zero, List.set_cons_succ]
        refine wpAnyH_take (i := 5) (oi := { dst := some 58, op := Op.nilCheck (Operand.tmp 57), type := 0, pos := "journal.go:103", after := #[{ on := 4, ground := Ground.data }], guard := none }) (v := ?vq6_5) rfl (by kernel_rfl) (by kernel_rfl) (by kernel_rfl) (fun _ _ _ h => h) (Or.inl ⟨by rfl, ?yq6_5⟩) (by assumption) ?rq6_5
        case yq6_5 => (intro w hSw; (try dsimp only at hSw); go_simp; (try with_reducible rfl))
        try simp only [Act.put, List.setIfInBounds_toArray, List.set_cons_zero, List.set_cons_succ]
        refine wpAnyH_take (i := 6) (oi := { dst := some 59, op := Op.fieldAddr 118 (Operand.tmp 58) 1, type := 0, pos := "journal.go:103", after := #[{ on := 5, ground := Ground.data }], guard := none }) (v := ?vq7_6) rfl (by kernel_rfl) (by kernel_rfl) (by kernel_rfl) (fun _ _ _ h => h) (Or.inl ⟨by rfl, ?yq7_6⟩) (by assumption) ?rq7_6
        case yq7_6 => (intro w hSw; (try dsimp only at hSw); go_simp; (try with_reducible rfl))
        try simp only [Act.put, List.setIfInBounds_toArray, List.set_cons_zero, List.set_cons_succ]
        refine wpAnyH_take (i := 7) (oi := { dst := some 60, op := Op.load 3 (Operand.tmp 59), type := 3, pos := "journal.go:103", after := #[{ on := 6, ground := Ground.data }], guard := none }) (v := ?vq8_7) rfl (by kernel_rfl) (by kernel_rfl) (by kernel_rfl) (fun _ _ _ h => h) (Or.inl ⟨by rfl, ?yq8_7⟩) (by assumption) ?rq8_7
        case yq8_7 => (intro w hSw; (try dsimp only at hSw); go_simp; (try with_reducible rfl))
        try simp only [Act.put, List.setIfInBounds_toArray, List.set_cons_zero, List.set_cons_succ]
        refine wpAnyH_take (i := 8) (oi := { dst := some 61, op := Op.move (Operand.tmp 5), type := 2, pos := "journal.go:103", after := #[], guard := none }) (v := ?vq9_8) rfl (by kernel_rfl) (by kernel_rfl) (by kernel_rfl) (fun _ _ _ h => h) (Or.inl ⟨by rfl, ?yq9_8⟩) (by assumption) ?rq9_8
        case yq9_8 => (intro w hSw; (try dsimp only at hSw); go_simp; (try with_reducible rfl))
        try simp only [Act.put, List.setIfInBounds_toArray, List.set_cons_zero, List.set_cons_succ]
        refine wpAnyH_take (i := 9) (oi := { dst := some 62, op := Op.binOp BinOp.quo 2 (Operand.tmp 61) (Operand.const (Value.int IntKind.i64 64)) 2, type := 2, pos := "journal.go:103", after := #[{ on := 8, ground := Ground.data }], guard := none }) (v := ?vq10_9) rfl (by kernel_rfl) (by kernel_rfl) (by kernel_rfl) (fun _ _ _ h => h) (Or.inl ⟨by rfl, ?yq10_9⟩) (by assumption) ?rq10_9
        case yq10_9 => (intro w hSw; (try dsimp only at hSw); go_simp; (try with_reducible rfl))
        try simp only [Act.put, List.setIfInBounds_toArray, List.set_cons_zero, List.set_cons_succ]
        refine wpAnyH_take (i := 10) (oi := { dst := some 63, op := Op.binOp BinOp.add 3 (Operand.tmp 60) (Operand.tmp 62) 3, type := 3, pos := "journal.go:103", after := #[{ on := 7, ground := Ground.data }, { on := 9, ground := Ground.data }], guard := none }) (v := ?vq11_10) rfl (by kernel_rfl) (by kernel_rfl) (by kernel_rfl) (fun _ _ _ h => h) (Or.inl ⟨by rfl, ?yq11_10⟩) (by assumption) ?rq11_10
        case yq11_10 => (intro w hSw; (try dsimp only at hSw); go_simp; (try with_reducible rfl))
        try simp only [Act.put, List.setIfInBounds_toArray, List.set_cons_zero, List.set_cons_succ]
        refine wpAnyH_ready (rs := [11]) (by kernel_rfl) (by simp) ?_
        refine AllReadyH.cons (o := { dst := some 64, op := Op.call { callee := Callee.value (Operand.func 33), args := #[Operand.tmp 56, Operand.tmp 63], argTypes := #[37, 3] }, type := 48, pos := "journal.go:103", after := #[{ on := 3, ground := Ground.data }, { on := 10, ground := Ground.data }], guard := none }) rfl (fun K hK => ?_) AllReadyH.nil
        go_simp; refine HLR.out.mono ?_; rintro e W2 ⟨oa, rfl, hm2⟩; have k1 := (hm2.cell (p := ⟨w.heap.size, 0, none⟩) (World.block_lt_of_cell? W1 _ hbx1) (fun h => h)).trans hbx1; have k2 := (hm2.cell (p := ⟨j, 0, none⟩) (World.block_lt_of_cell? W1 _ hj0) (fun h => h)).trans hj0; have k3 := (hm2.cell (p := ⟨j, 1, none⟩) (World.block_lt_of_cell? W1 _ hj1) (fun h => h)).trans hj1; have HM2 := hid ((Mod.refl None W1).drew.trans hm2); clear hm2; go_wp2_with fail
        refine hK.out _ _ ?_ (fun hHeld => ?_)
        · first | exact ⟨k1, k2, k3⟩ | exact ⟨hbx1, hj0, hj1⟩
        clear hK K
        try simp only [Act.put, List.setIfInBounds_toArray, List.set_cons_zero, List.set_cons_succ]
        refine wpAnyH_take (i := 12) (oi := { dst := some 52, op := Op.move (Operand.tmp 64), type := 48, pos := "journal.go:103", after := #[{ on := 11, ground := Ground.data }], guard := none }) (v := ?vq12_12) rfl (by kernel_rfl) (by kernel_rfl) (by kernel_rfl) (fun _ _ _ h => h) (Or.inl ⟨by rfl, ?yq12_12⟩) (by assumption) ?rq12_12
        case yq12_12 => (intro w hSw; (try dsimp only at hSw); go_simp; (try with_reducible rfl))
        try simp only [Act.put, List.setIfInBounds_toArray, List.set_cons_zero, List.set_cons_succ]
        refine wpAnyH_take (i := 13) (oi := { dst := some 65, op := Op.extract (Operand.tmp 52) 0, type := 27, pos := "journal.go:103", after := #[{ on := 12, ground := Ground.data }], guard := none }) (v := ?vq13_13) rfl (by kernel_rfl) (by kernel_rfl) (by kernel_rfl) (fun _ _ _ h => h) (Or.inl ⟨by rfl, ?yq13_13⟩) (by assumption) ?rq13_13
        case yq13_13 => (intro w hSw; (try dsimp only at hSw); go_simp; (try with_reducible rfl))
        try simp only [Act.put, List.setIfInBounds_toArray, List.set_cons_zero, List.set_cons_succ]
        refine wpAnyH_take (i := 14) (oi := { dst := some 66, op := Op.extract (Operand.tmp 52) 1, type := 40, pos := "journal.go:103", after := #[{ on := 12, ground := Ground.data }, { on := 15, ground := Ground.gcOnly Departure.lateStores }], guard := none }) (v := ?vq14_14) rfl (by kernel_rfl) (by kernel_rfl) (by kernel_rfl) (fun _ _ _ h => h) (Or.inl ⟨by rfl, ?yq14_14⟩) (by assumption) ?rq14_14
        case yq14_14 => (intro w hSw; (try dsimp only at hSw); go_simp; (try with_reducible rfl))
        try simp only [Act.put, List.setIfInBounds_toArray, List.set_cons_zero, List.set_cons_succ]
        refine wpAnyH_take (i := 15) (oi := { dst := some 9, op := Op.assign (Operand.tmp 65), type := 27, pos := "journal.go:103", after := #[{ on := 13, ground := Ground.data }, { on := 11, ground := Ground.chain }, { on := 0, ground := Ground.phase }, { on := 1, ground := Ground.phase }, { on := 2, ground := Ground.phase }, { on := 3, ground := Ground.phase }, { on := 4, ground := Ground.phase }, { on := 5, ground := Ground.phase }, { on := 6, ground := Ground.phase }, { on := 7, ground := Ground.phase }, { on := 8, ground := Ground.phase }, { on := 9, ground := Ground.phase }, { on := 10, ground := Ground.phase }, { on := 11, ground := Ground.phase }, { on := 12, ground := Ground.phase }, { on := 13, ground := Ground.phase }, { on := 14, ground := Ground.textOnly Departure.lateStores }], guard := none }) (v := ?vq15_15) rfl (by kernel_rfl) (by kernel_rfl) (by kernel_rfl) (fun _ _ _ h => h) (Or.inl ⟨by rfl, ?yq15_15⟩) (by assumption) ?rq15_15
        case yq15_15 => (intro w hSw; (try dsimp only at hSw); go_simp; (try with_reducible rfl))
        try simp only [Act.put, List.setIfInBounds_toArray, List.set_cons_zero, List.set_cons_succ]
        refine wpAnyH_take (i := 16) (oi := { dst := some 10, op := Op.assign (Operand.tmp 66), type := 40, pos := "journal.go:103", after := #[{ on := 14, ground := Ground.data }, { on := 15, ground := Ground.chain }, { on := 0, ground := Ground.phase }, { on := 1, ground := Ground.phase }, { on := 2, ground := Ground.phase }, { on := 3, ground := Ground.phase }, { on := 4, ground := Ground.phase }, { on := 5, ground := Ground.phase }, { on := 6, ground := Ground.phase }, { on := 7, ground := Ground.phase }, { on := 8, ground := Ground.phase }, { on := 9, ground := Ground.phase }, { on := 10, ground := Ground.phase }, { on := 11, ground := Ground.phase }, { on := 12, ground := Ground.phase }, { on := 13, ground := Ground.phase }, { on := 14, ground := Ground.phase }, { on := 15, ground := Ground.phase }], guard := none }) (v := ?vq16_16) rfl (by kernel_rfl) (by kernel_rfl) (by kernel_rfl) (fun _ _ _ h => h) (Or.inl ⟨by rfl, ?yq16_16⟩) (by assumption) ?rq16_16
        case yq16_16 => (intro w hSw; (try dsimp only at hSw); go_simp; (try with_reducible rfl))
        try simp only [Act.put, List.setIfInBounds_toArray, List.set_cons_zero, List.set_cons_succ]
        refine wpAnyH_done (by kernel_rfl) ?_ _
        refine NoPanic.normal ?_
        clear k2 k3 hj0 hj1 HLR
        have HMT := hid (HM.out.trans (HFM.out.trans HM2.out))
        have HRBT := hid ((HFM.out.trans HM2.out).blk HRB.out (fun h => h))
        have HJT := hid (show IsJ W2 j p fr to en ct from (HFM.out.trans HM2.out).blk HJ.out (fun h => h))
        have HLT2 := hid (HLV.out.step (HFM.out.trans HM2.out))
        have hfz2 := HRBT.out.free 0
        have hce2 : W2.cell? ⟨w.heap.size + 1, 0, none⟩ = some (.int .i64 0) := HRBT.out.is rfl
        go_wp2_with fail
        have hms : Mod (fun x => x = w.heap.size + 1) W2 (W2.setCell ⟨w.heap.size + 1, 0, none⟩ (.int .i64 32)) := Mod.set (S := fun x => x = w.heap.size + 1) (Mod.refl _ _) (.inl rfl) _
        refine ret47 _ _ (w.heap.size + 1) 32 rfl ((HRBT.out.set 0 _).is rfl) ?_
        rw [HST.out]
        refine ⟨S, rfl, (HLT2.out.turn (T := fun x => x = w.heap.size + 1) (T' := fun x => x = w.heap.size + 1) (.same hms) (fun x hx e => by have := HLT.out x hx; omega) (fun x e => by have := HW0.out; omega)).1, ?_, ((HMT.out.then hms (fun i hi e => by omega)).mono (fun _ _ h => h.elim)), fun x _ h => h⟩
        rw [if_neg (show ¬ (32 : Int) = 0 by decide), if_neg (show ¬ (32 : Int) = 0 by decide)]
        exact hms.blk HJT.out (by have := HJL.out; omega)
    · have hp1 : ¬ (ix : Int) * 64 < (en : Int) := by have := HPT.out; have := HIX.out; omega
      have HJA := hid (show jall st fr en b = frameL b by unfold jall jpart; rw [← HPT.out, if_neg hp]; rfl)
      clear hp
      go_wp2_with fail
      go_meet
      case rel => exact ⟨fa, fc, by rw [HJA.out, HFL.out], by rw [HJA.out]; exact HC0.out⟩
  case rest =>
    obtain ⟨fa2, fc2, rfl, hcr⟩ := hcut
    have HAL := hid (show (jall st fr en b).length ≤ bl + 16 + 64 by
      unfold jall jpart
      rw [List.length_append, HFL.out]
      split
      · rw [List.length_take]; omega
      · simp)
    have HCR := hid hcr.out
    clear hcr
    generalize hal : jall st fr en b = al at *
    have HALE := hid hal
    clear hal
    have hbxc : wc.cell? ⟨w.heap.size, 0, none⟩ = some (.pointer (some ⟨j, 0, none⟩)) := (HCR.out.2.2.2.blk HBX.out (fun h => h)).is rfl
    obtain ⟨⟨q, rest, rfl, hq1, hqb⟩, hc1, hc2, hcm⟩ := HCR.out
    have hqx := hqb.lt
    go_wp2_with fail
    refine (sectors_any wc j (some ⟨q, 0, none⟩) al.length fc2 _).mono ?_
    rintro e W4 ⟨rfl, hw4⟩
    have hm4 : Mod None wc W4 := by rw [hw4]; exact (((Mod.refl None wc).alloc _).alloc _).alloc _
    have hs4 : W4.heap.size = wc.heap.size + 3 := by rw [hw4]; simp
    have hbb : Blk W4 (wc.heap.size + 1) 27 [.slice (some ⟨q, 0, none⟩) al.length fc2] := by
      rw [hw4]
      have := (Blk.new (wc.alloc (.cells #[.pointer (some ⟨j, 0, none⟩)] 62)) 27 #[.slice (some ⟨q, 0, none⟩) al.length fc2]).alloc (.cells #[.int .i64 ((ix : Int) * 64)] 2)
      simpa using this
    have hbj : Blk W4 wc.heap.size 62 [.pointer (some ⟨j, 0, none⟩)] := by rw [hw4]; exact ((Blk.new wc 62 _).alloc _).alloc _
    have hba : Blk W4 (wc.heap.size + 2) 2 [.int .i64 ((ix : Int) * 64)] := by
      rw [hw4]
      have := Blk.new ((wc.alloc (.cells #[.pointer (some ⟨j, 0, none⟩)] 62)).alloc (.cells #[.slice (some ⟨q, 0, none⟩) al.length fc2] 27)) 2 #[.int .i64 ((ix : Int) * 64)]
      simpa using this
    have HM4 := hid (hcm.trans hm4)
    have HJ4 := hid (show IsJ W4 j p fr to en ct from HM4.out.blk HJ.out (fun h => h))
    have hfr4 : W4.cell? ⟨j, 1, none⟩ = some (.int .i64 (fr : Int)) := HJ4.out.cells.2.1
    have HBX4 := hid (HM4.out.blk HBX.out (fun h => h))
    have HRB4 := hid (HM4.out.blk HRB.out (fun h => h))
    have hws : wc.heap.size ≥ w.heap.size + 2 := by have := hcm.size; have := HWS.out; omega
    have HWC := hid hws
    have HSP : Hid (Spots w0 W4 S (wc.heap.size + 1) (w.heap.size + 1) q) := by
      have h1 := HWS.out
      have h2 := HW0.out
      refine ⟨by omega, by omega, by omega, fun hs => ?_, fun hs => ?_, fun hs => ?_, by omega, by omega, by omega, by omega, by omega, HNW.out, fun k hk => ?_⟩
      · have := HLT.out _ hs; omega
      · have := HLT.out _ hs; omega
      · have := HLT.out _ hs; omega
      · have := HLT.out _ hk; omega
    have HLV4 := hid (HLV.out.step HM4.out)
    have HRD4 := hid (show Rd W4 (some ⟨q, 0, none⟩) al from (hm4.blk hqb (fun h => h)).rdv 0 (fun i hi => by rw [Nat.zero_add, List.getElem?_append_left hi]))
    have HBB := hid hbb
    have HCC := hid (And.intro hc1 hc2)
    have HS4 := hid (show wc.heap.size + 3 = W4.heap.size from hs4.symm)
    have hcbj : W4.cell? ⟨wc.heap.size, 0, none⟩ = some (.pointer (some ⟨j, 0, none⟩)) := hbj.is rfl
    have hcba : W4.cell? ⟨wc.heap.size + 2, 0, none⟩ = some (.int .i64 (((ix * 64 : Nat)) : Int)) := by rw [show (((ix * 64 : Nat)) : Int) = (ix : Int) * 64 by omega]; exact hba.is rfl
    have HCB := hid (And.intro hcbj hcba)
    clear hw4 hm4 hs4 hbb hbj hba hq1 hqb hqx hc1 hc2 hcm hcbj hcba HCR
    obtain ⟨res, hres⟩ : ∃ res, wrs (al.length + 1) st (fr + ix) al = res := ⟨_, rfl⟩
    have HRES := hid hres
    clear hres
    go_wp2_with fail
    refine wp_sectors (bj := wc.heap.size) (ba := wc.heap.size + 2) (bf := wc.heap.size + 1) (j := j) (fr := fr) (at' := ix * 64) (i0 := fr + ix) (f := al) ?hfl ?hg
      (fun k a c W' => LJ w0 W4 S p (wc.heap.size + 1) (w.heap.size + 1) q (fr + ix) st.waits.length al res k k a c W')
      (fun k a c W' => LJ w0 W4 S p (wc.heap.size + 1) (w.heap.size + 1) q (fr + ix) st.waits.length al res (k + 1) k a c W')
      (fun W' => LX w0 W4 S p (wc.heap.size + 1) (w.heap.size + 1) res W') ?hIp ?hIp' ?hIpx (some ⟨q, 0, none⟩) fc2 ?h0 ?hId ?hI ?hN ?hbf HCB.out.1 HCB.out.2 hfr4 ?hi0 ?hb ?a1 ?hassign ?hbody ?hdone ?hstop
    case hfl => have := HAL.out; omega
    case hg => rfl
    case hIp => exact fun k a c W l o o' h1 h2 _ h => h.put HSP.out l o' h1 h2 (by have := HS4.out; have := HW0.out; omega)
    case hIp' => exact fun k a c W l o o' h1 h2 _ h => h.put HSP.out l o' h1 h2 (by have := HS4.out; have := HW0.out; omega)
    case hIpx => exact fun W l o o' h1 h2 _ h => h.put HSP.out l o' h1 h2 (by have := HS4.out; have := HW0.out; omega)
    case hassign =>
      intro l x v W' K hK
      gi_wp2
      exact hK
    case h0 =>
      intro o1 o2
      have hm : Mod None W4 ((W4.alloc o1).alloc o2) := ((Mod.refl None W4).alloc o1).alloc o2
      refine ⟨S, st, HLV4.out.step hm, ?_, fun x _ h => h, Nat.le_refl _, hm.mono (fun _ _ h => h.elim), by simp, ?_, hm.blk HRB4.out (fun h => h), hm.rd HRD4.out (fun _ _ h => h), .inr ⟨0, rfl⟩, HCC.out.1, HCC.out.2⟩
      · simpa using HRES.out
      · exact hm.blk HBB.out (fun h => h)
    case hId => exact fun k a c W n h => h.keep HSP.out (mod_drewN W n)
    case hI => exact fun k a c W h => h.read
    case hN => exact fun k a c W h => ⟨h.read.1, h.read.2.1, h.read.2.2.1, fun a2 c2 hr hm hc hc2 => h.box HSP.out hr (h.spot hm) hc hc2⟩
    case hbf => have := HS4.out; omega
    case hi0 => omega
    case hb => have := HRNG.out; omega
    case hbody =>
      intro l k a' c' W' hi hk
      have hmi := hi.mod
      have h1 := HWS.out
      have hnj : ¬ (S j ∨ j = wc.heap.size + 1 ∨ j = w.heap.size + 1) := by
        have := HJL.out
        rintro (h | h | h)
        · exact hjS h
        · omega
        · omega
      have hnb : ¬ (S w.heap.size ∨ w.heap.size = wc.heap.size + 1 ∨ w.heap.size = w.heap.size + 1) := by
        rintro (h | h | h)
        · have := HLT.out _ h; omega
        · omega
        · omega
      have hbx' : W'.cell? ⟨w.heap.size, 0, none⟩ = some (.pointer (some ⟨j, 0, none⟩)) := (hmi.blk HBX4.out hnb).is rfl
      have hj0' : W'.cell? ⟨j, 0, none⟩ = some (.pointer (some ⟨p, 0, none⟩)) := Blk.is (hmi.blk HJ4.out hnj) rfl
      have HWR := hid (hi.write HSP.out hk (by have := HX.out; have := HAL.out; omega) _ rfl)
      have HSZ := hid hi.size
      clear hmi hnj hnb hi hk h1
      generalize Nat.min (al.length - 64 * k) 64 = m at *
      rw [show (((fr + ix : Nat)) : Int) = (fr : Int) + (ix : Int) by omega] at HWR
      have HFAR := hid (show ∀ (X : World) (v : Value) (x : Nat), W4.heap.size ≤ x → x < X.heap.size → (X.setCell ⟨w.heap.size + 1, 0, none⟩ v).heap[x]? = X.heap[x]? from fun X v x hx hlt => by
        have hmm : Mod (fun k => k = w.heap.size + 1) X (X.setCell ⟨w.heap.size + 1, 0, none⟩ v) := Mod.set (S := fun k => k = w.heap.size + 1) (Mod.refl _ _) (.inl rfl) v
        exact hmm.block x hlt (fun e => by have := HSP.out.rbl; omega))
      gi_wp2_with fail
      refine ⟨trivial, (CallsIn.inRound l (callsIn_wide.2 HWR.out)).mono ?_⟩
      rintro e w' ⟨e0, rfl, hkp, hrb, ⟨rfl, hlj⟩ | ⟨hne, hlx⟩⟩
      · have HKP := hid hkp
        have HLJ := hid hlj
        clear hkp hrb hlj HWR
        gi_wp2
        exact ⟨HKP.out, HLJ.out⟩
      · have HKP := hid hkp
        have HLX := hid hlx
        have HNE := hid hne
        have hrb0 : w'.cell? ⟨w.heap.size + 1, 0, none⟩ = some (.int .i64 0) := hrb.is rfl
        have hrbf := hrb.free 0
        have hne' : ¬ e0 = 0 := hne
        clear hkp hrb hlx HWR hne
        gi_wp2
        refine ⟨fun x hx hx2 => ?_, HLX.out⟩
        have hlt : x < w'.heap.size := by
          have e := HKP.out x hx hx2
          have e2 : W'.heap[x]? = some (W'.heap[x]'(by have := HSZ.out; omega)) := Array.getElem?_eq_getElem _
          rw [e2] at e
          exact (Array.getElem?_eq_some_iff.1 e).1
        exact (HFAR.out _ _ x hx hlt).trans (HKP.out x hx hx2)
    case hdone =>
      intro k a' c' W' hk hi hD
      have hmi := hi.mod
      have h1 := HWS.out
      have hnj : ¬ (S j ∨ j = wc.heap.size + 1 ∨ j = w.heap.size + 1) := by
        have := HJL.out
        rintro (h | h | h)
        · exact hjS h
        · omega
        · omega
      have hnb : ¬ (S w.heap.size ∨ w.heap.size = wc.heap.size + 1 ∨ w.heap.size = w.heap.size + 1) := by
        rintro (h | h | h)
        · have := HLT.out _ h; omega
        · omega
        · omega
      obtain ⟨S', stk, b1, b2, b3, _, b5, b6, _, b8, _⟩ := hi
      have hnil : al.drop (64 * k) = [] := List.drop_eq_nil_of_le hk
      rw [hnil, wrs_nil] at b2
      have hbx' : W'.cell? ⟨w.heap.size, 0, none⟩ = some (.pointer (some ⟨j, 0, none⟩)) := (hmi.blk HBX4.out hnb).is rfl
      have HJW := hid (show IsJ W' j p fr to en ct from hmi.blk HJ4.out hnj)
      obtain ⟨hj0', _, _, _, _⟩ := HJW.out.cells
      have HAP := hid (show st.append fr en b = stk.flush by
        unfold DSt.append
        rw [HALE.out, ← HIX.out, HRES.out, ← b2]; rfl)
      have HF := hid (live_flush b1)
      obtain ⟨st2, e2, hfe⟩ : ∃ st2 e2, stk.flush = (st2, e2) := ⟨_, _, rfl⟩
      rw [hfe] at HF HAP
      have hnS : ∀ x, x < W4.heap.size + 2 → ¬ S x → ¬ S' x := fun x hx hn h => hn (b3 x hx h)
      have HNJ := hid (hnS j (by have := HJL.out; have := HS4.out; omega) hjS)
      have HNB := hid (hnS w.heap.size (by have := HS4.out; omega) (fun h => by have := HLT.out _ h; omega))
      have HNR := hid (hnS (w.heap.size + 1) (by have := HS4.out; omega) (fun h => by have := HLT.out _ h; omega))
      have HND := hid (hnS W4.heap.size (by omega) (fun h => by have := HLT.out _ h; have := HS4.out; omega))
      have HBXW := hid (hmi.blk HBX4.out hnb)
      have HRBW := hid b8
      have HMW := hid hmi
      have H3 := hid b3
      have H6 := hid b6
      have HD := hid hD
      clear hmi hnj hnb b1 b2 b3 b5 b6 b8 hnil hfe hnS hk h1 hD
      go_wp2_with fail
      refine HF.out.mono ?_
      rintro e W2 ⟨S2, rfl, hl2, ht2⟩
      have HL2 := hid hl2
      have HT2 := hid ht2
      have HJ2 := hid (show IsJ W2 j p fr to en ct from ht2.mod.blk HJW.out HNJ.out)
      have HBX2 := hid (ht2.mod.blk HBXW.out HNB.out)
      have HRB2 := hid (ht2.mod.blk HRBW.out HNR.out)
      have HD2 := hid (show W2.heap[W4.heap.size]? = some (.deferred (some [])) by rw [ht2.mod.block W4.heap.size (by have := H6.out; omega) HND.out]; exact HD.out)
      have hbx2 : W2.cell? ⟨w.heap.size, 0, none⟩ = some (.pointer (some ⟨j, 0, none⟩)) := HBX2.out.is rfl
      have hrb2 : W2.cell? ⟨w.heap.size + 1, 0, none⟩ = some (.int .i64 0) := HRB2.out.is rfl
      have hrbf := HRB2.out.free 0
      clear hl2 ht2 HF hbx' hj0'
      by_cases h0 : e2 = 0
      · subst h0
        obtain ⟨_, _, _, hj3, hj4⟩ := HJ2.out.cells
        have f3 := Blk.free HJ2.out 3
        have f4 := Blk.free HJ2.out 4
        have hsz2 := HT2.out.mod.size
        have hfin := fun (X : World) (hx : Mod (fun x => x = j ∨ x = w.heap.size + 1 ∨ x = W4.heap.size) W2 X) => append_fin (X := X) HM.out HM4.out HMW.out H3.out HT2.out HL2.out hx (fun x h => by
            have := HM.out.size
            have := HS4.out
            have := HWC.out
            rcases h with h | h | h
            · exact .inl h
            · exact .inr (by omega)
            · exact .inr (by omega)) (fun x h => by
            have := H6.out
            have := HW0.out
            have := HWC.out
            have := HS4.out
            have := HJL.out
            rcases h with rfl | rfl | rfl
            · exact ⟨by omega, HNJ.out, hj0⟩
            · exact ⟨by omega, HNR.out, by omega⟩
            · exact ⟨by omega, HND.out, by omega⟩) (by have := HWC.out; omega) (by omega)
        have HFIN := hid hfin
        clear hfin hsz2
        have hct : IntKind.i64.wrap ((ct : Int) + 1) = (ct : Int) + 1 := wrap_in _ (by omega)
        go_wp2_with fail
        refine wp_region_noPanic ?_
        go_region
        all_goals
          refine NoPanic.normal ?_
          go_wp2_with fail
        have hX : Mod (fun x => x = j ∨ x = w.heap.size + 1) W2 (((W2.setCell ⟨j, 3, none⟩ (.int .i64 ((en : Int) + ((bl : Int) + 16)))).setCell ⟨j, 4, none⟩ (.int .i64 ((ct : Int) + 1))).setCell ⟨w.heap.size + 1, 0, none⟩ (.int .i64 0)) :=
          Mod.set (S := fun x => x = j ∨ x = w.heap.size + 1) (Mod.set (S := fun x => x = j ∨ x = w.heap.size + 1) (Mod.set (S := fun x => x = j ∨ x = w.heap.size + 1) (Mod.refl _ _) (.inl (.inl rfl)) _) (.inl (.inl rfl)) _) (.inl (.inr rfl)) _
        have hjr : j ≠ w.heap.size + 1 := by have := HJL.out; omega
        have hJX : IsJ (((W2.setCell ⟨j, 3, none⟩ (.int .i64 ((en : Int) + ((bl : Int) + 16)))).setCell ⟨j, 4, none⟩ (.int .i64 ((ct : Int) + 1))).setCell ⟨w.heap.size + 1, 0, none⟩ (.int .i64 0)) j p fr to ((en : Int) + ((bl : Int) + 16)) ((ct : Int) + 1) :=
          ((Blk.set HJ2.out 3 _).set 4 _).set_other (by exact hjr) _
        have hRX := ((HRB2.out.set_other (a := ⟨j, 3, none⟩) (by exact Ne.symm hjr) (.int .i64 ((en : Int) + ((bl : Int) + 16)))).set_other (a := ⟨j, 4, none⟩) (by exact Ne.symm hjr) (.int .i64 ((ct : Int) + 1))).set 0 (.int .i64 0)
        generalize ((W2.setCell ⟨j, 3, none⟩ (.int .i64 ((en : Int) + ((bl : Int) + 16)))).setCell ⟨j, 4, none⟩ (.int .i64 ((ct : Int) + 1))).setCell ⟨w.heap.size + 1, 0, none⟩ (.int .i64 0) = X at *
        have hd3 : X.heap[W4.heap.size]? = some (.deferred (some [])) := by
          rw [hX.block W4.heap.size (Array.getElem?_eq_some_iff.1 HD2.out).1 (by have := HSP.out.rbl; have := HJL.out; have := HS4.out; have := HWC.out; omega)]; exact HD2.out
        have hmx : Mod (fun x => x = j ∨ x = w.heap.size + 1 ∨ x = W4.heap.size) W2 (X.drew.putObj W4.heap.size (.deferred none)) :=
          (hX.drew.mono (fun x _ h => h.imp id Or.inl)).trans ((mod_putObj X.drew W4.heap.size (.deferred none)).mono (fun x _ h => Or.inr (Or.inr h)))
        obtain ⟨g1, g2, g3⟩ := HFIN.out _ hmx
        refine ret47d _ _ (w.heap.size + 1) W4.heap.size 0 hd3 rfl (hRX.is rfl) ?_
        rw [HAP.out]
        refine ⟨S2, rfl, g1, ?_, g2, g3⟩
        show IsJ _ _ _ _ _ (if (0 : Int) = 0 then ((en + bl + 16 : Nat) : Int) else (en : Int)) (if (0 : Int) = 0 then ((ct + 1 : Nat) : Int) else (ct : Int))
        rw [if_pos rfl, if_pos rfl]
        have := (mod_putObj X.drew W4.heap.size (.deferred none)).blk (Blk.drew hJX) (by have := HJL.out; have := HS4.out; have := HWC.out; omega)
        have e1 : ((en + bl + 16 : Nat) : Int) = (en : Int) + ((bl : Int) + 16) := by omega
        have e2 : ((ct + 1 : Nat) : Int) = (ct : Int) + 1 := by omega
        rw [e1, e2]; exact this
      · have hne : ¬ e2 = 0 := h0
        have hfin := fun (X : World) (hx : Mod (fun x => x = w.heap.size + 1 ∨ x = W4.heap.size) W2 X) => append_fin (X := X) (j := j) HM.out HM4.out HMW.out H3.out HT2.out HL2.out hx (fun x h => by
            have := HS4.out
            have := HWC.out
            rcases h with h | h
            · exact .inr (by omega)
            · exact .inr (by omega)) (fun x h => by
            have := H6.out
            have := HW0.out
            have := HWC.out
            have := HS4.out
            rcases h with rfl | rfl
            · exact ⟨by omega, HNR.out, by omega⟩
            · exact ⟨by omega, HND.out, by omega⟩) (by have := HWC.out; omega) (by omega)
        have HFIN := hid hfin
        clear hfin
        go_wp2_with fail
        have hms : Mod (fun x => x = w.heap.size + 1 ∨ x = W4.heap.size) W2 (W2.setCell ⟨w.heap.size + 1, 0, none⟩ (.int .i64 e2)) := Mod.set (Mod.refl _ _) (.inl (.inl rfl)) _
        have hd3 : (W2.setCell ⟨w.heap.size + 1, 0, none⟩ (.int .i64 e2)).heap[W4.heap.size]? = some (.deferred (some [])) := by
          have hmm : Mod (fun x => x = w.heap.size + 1) W2 (W2.setCell ⟨w.heap.size + 1, 0, none⟩ (.int .i64 e2)) := Mod.set (S := fun x => x = w.heap.size + 1) (Mod.refl _ _) (.inl rfl) _
          rw [hmm.block W4.heap.size (Array.getElem?_eq_some_iff.1 HD2.out).1 (by have := HSP.out.rbl; omega)]; exact HD2.out
        have hmx := hms.trans ((mod_putObj (W2.setCell ⟨w.heap.size + 1, 0, none⟩ (.int .i64 e2)) W4.heap.size (.deferred none)).mono (fun x _ h => Or.inr h))
        obtain ⟨g1, g2, g3⟩ := HFIN.out _ hmx
        refine ret47d _ _ (w.heap.size + 1) W4.heap.size e2 hd3 rfl ((HRB2.out.set 0 _).is rfl) ?_
        rw [HAP.out]
        refine ⟨S2, rfl, g1, ?_, g2, g3⟩
        rw [if_neg hne, if_neg hne]
        exact hmx.blk HJ2.out (by have := HJL.out; have := HS4.out; have := HWC.out; omega)
    case hstop =>
      intro W' hx hD
      obtain ⟨S', b1, b2, b3, b5, b8⟩ := hx
      have HAP := hid (show st.append fr en b = res by
        unfold DSt.append
        rw [HALE.out, ← HIX.out, HRES.out, if_neg b2])
      have hmx := mod_putObj W' W4.heap.size (.deferred none)
      have hDl := (Array.getElem?_eq_some_iff.1 hD).1
      have hfin := append_fin (X := W'.putObj W4.heap.size (.deferred none)) (j := j) HM.out HM4.out b5 b3 (Turn.same (Mod.refl S' W')) b1 hmx (fun x h => .inr (by have := HS4.out; have := HWC.out; omega))
        (fun x h => ⟨by omega, fun hs => by have := HLT.out _ (b3 x (by omega) hs); have := HS4.out; have := HWC.out; omega, by have := HS4.out; have := HWC.out; have := HW0.out; omega⟩) (by have := HWC.out; omega) (by omega)
      have HFIN := hid hfin
      have HJX := hid (show IsJ W' j p fr to en ct from b5.blk HJ4.out (by
        have := HJL.out
        have := HWC.out
        rintro (h | h | h)
        · exact hjS h
        · omega
        · omega))
      have HR8 := hid b8
      have HB2 := hid b2
      have HMX := hid hmx
      have HDD := hid hD
      clear hmx hfin b1 b3 b5 b8 b2 hDl hD
      go_wp2_with fail
      refine ret47d _ _ (w.heap.size + 1) W4.heap.size res.2 HDD.out rfl (HR8.out.is rfl) ?_
      obtain ⟨g1, g2, g3⟩ := HFIN.out
      rw [HAP.out]
      refine ⟨S', rfl, g1, ?_, g2, g3⟩
      rw [if_neg HB2.out, if_neg HB2.out]
      exact HMX.out.blk HJX.out (by have := HJL.out; have := HS4.out; have := HWC.out; omega)
end Go.Proofs.Ytdhhpnfdnoaihaa

/-! P5 -/
/- The plain law of a journal when the power goes. -/
namespace Go.Proofs.Ytdhhpnfdnoaihaa
open Go.RowKit

theorem getD_at {l : List (List UInt8)} {i : Nat} (h : i < l.length) : l.getD i [] = l[i] := by
  rw [List.getD_eq_getElem?_getD, List.getElem?_eq_getElem h]; rfl
/-- the first `en` bytes from `fr` on are the same -/
structure Alike (fr en : Nat) (l l' : List (List UInt8)) : Prop where
  len : l'.length = l.length
  sec : ∀ s ∈ l', s.length = 64
  top : l'.take (fr + en / 64) = l.take (fr + en / 64)
  part : (l'.getD (fr + en / 64) []).take (en % 64) = (l.getD (fr + en / 64) []).take (en % 64)
theorem Alike.refl {fr en : Nat} {l : List (List UInt8)} (h : ∀ s ∈ l, s.length = 64) : Alike fr en l l := ⟨rfl, h, rfl, rfl⟩
theorem flat_parts {fr en : Nat} {l : List (List UInt8)} (h : ∀ s ∈ l, s.length = 64) (hr : fr * 64 + en ≤ 64 * l.length) :
    (flat l fr).take en = ((l.take (fr + en / 64)).drop fr).flatten ++ (l.getD (fr + en / 64) []).take (en % 64) := by
  have hs : ∀ s ∈ l.drop fr, s.length = 64 := fun s hs => h s (List.mem_of_mem_drop hs)
  have e1 : (flat l fr).take en = (flat l fr).take (64 * (en / 64)) ++ ((flat l fr).drop (64 * (en / 64))).take (en % 64) := by
    rw [← List.take_add]; congr 1; omega
  rw [e1]
  unfold flat
  rw [flat_take _ _ hs, flat_drop _ _ hs, List.drop_take, show fr + en / 64 - fr = en / 64 by omega, List.drop_drop]
  congr 1
  by_cases hlt : fr + en / 64 < l.length
  · rw [List.drop_eq_getElem_cons hlt, List.flatten_cons, List.take_append_of_le_length (by rw [h _ (List.getElem_mem _)]; omega), getD_at hlt]
  · rw [show en % 64 = 0 by omega]; simp
theorem Alike.flat {fr en : Nat} {l l' : List (List UInt8)} (h : Alike fr en l l') (hs : ∀ s ∈ l, s.length = 64) (hr : fr * 64 + en ≤ 64 * l.length) : (Proofs.Ytdhhpnfdnoaihaa.flat l' fr).take en = (Proofs.Ytdhhpnfdnoaihaa.flat l fr).take en := by
  rw [flat_parts hs hr, flat_parts h.sec (by rw [h.len]; exact hr), h.top, h.part]
theorem Alike.set {fr en : Nat} {l l' : List (List UInt8)} (h : Alike fr en l l') {i : Nat} {y : List UInt8} (hi : fr + en / 64 ≤ i) (hy : y.length = 64) (hp : i = fr + en / 64 → y.take (en % 64) = (l.getD (fr + en / 64) []).take (en % 64)) :
    Alike fr en l (l'.set i y) := by
  refine ⟨by rw [List.length_set, h.len], sec_set h.sec i hy, ?_, ?_⟩
  · rw [List.take_set, List.set_eq_of_length_le (by rw [List.length_take]; omega), h.top]
  · by_cases e : i = fr + en / 64
    · subst e
      by_cases hlt : fr + en / 64 < l'.length
      · rw [getD_at (by rw [List.length_set]; exact hlt), List.getElem_set_self]; exact hp rfl
      · rw [List.set_eq_of_length_le (by omega)]; exact h.part
    · rw [List.getD_eq_getElem?_getD, List.getElem?_set_ne e, ← List.getD_eq_getElem?_getD]; exact h.part
theorem Alike.setAll {fr en : Nat} {l : List (List UInt8)} : ∀ (X : List (Nat × List UInt8)) (l' : List (List UInt8)), Alike fr en l l' →
    (∀ x ∈ X, fr + en / 64 ≤ x.1 ∧ x.2.length = 64 ∧ (x.1 = fr + en / 64 → x.2.take (en % 64) = (l.getD (fr + en / 64) []).take (en % 64))) → Alike fr en l (Proofs.Ytdhhpnfdnoaihaa.setAll l' X)
  | [], _, h, _ => h
  | x :: X, l', h, hx => Alike.setAll X (l'.set x.1 x.2) (h.set (hx x (by simp)).1 (hx x (by simp)).2.1 (hx x (by simp)).2.2) (fun y hy => hx y (by simp [hy]))
theorem laid_mem : ∀ (n i : Nat) (f : List UInt8), ∀ x ∈ laidL n i f, i ≤ x.1 ∧ x.2.length = 64 ∧ (x.1 = i → x.2 = pad64 (f.take 64))
  | 0, i, f, x, hx => by simp [laidL] at hx
  | n + 1, i, f, x, hx => by
    rw [laidL] at hx
    split at hx
    · simp at hx
    · rcases List.mem_cons.1 hx with rfl | hx
      · exact ⟨Nat.le_refl _, pad64_length _ (by rw [List.length_take]; omega), fun _ => rfl⟩
      · obtain ⟨h1, h2, _⟩ := laid_mem n (i + 1) _ x hx
        exact ⟨by omega, h2, fun e => by omega⟩
/-- what a run of writes leaves, however it ends -/
theorem wrs_some : ∀ (n : Nat) (st : DSt) (i : Nat) (f : List UInt8), i * 64 + f.length ≤ 64 * st.last.length →
    ∃ m, (wrs n st i f).1.last = st.last ∧ (wrs n st i f).1.waits = st.waits ++ (laidL n i f).take m ∧ ((wrs n st i f).2 = 0 → (laidL n i f).take m = laidL n i f)
  | 0, st, i, f, _ => ⟨0, rfl, by simp [wrs], fun _ => rfl⟩
  | n + 1, st, i, f, hr => by
    unfold wrs laidL
    by_cases hf : f = []
    · rw [if_pos hf, if_pos hf]; exact ⟨0, rfl, by simp, fun _ => rfl⟩
    · rw [if_neg hf, if_neg hf]
      have hpos : 0 < f.length := by
        cases f with
        | nil => exact absurd rfl hf
        | cons _ _ => simp
      cases hd : st.down
      · have hm : st.may (i : Int) = 0 := by
          unfold DSt.may
          rw [hd]
          simp
          omega
        have hw : st.write (i : Int) (f.take 64) = ((st.put i (pad64 (f.take 64))).changed, 0) := by
          unfold DSt.write
          rw [if_pos hm, if_neg (by rw [List.length_take]; omega), Int.toNat_natCast]
        have hc1 : (st.put i (pad64 (f.take 64))).changed.last = st.last := by unfold DSt.changed; split <;> rfl
        have hc2 : (st.put i (pad64 (f.take 64))).changed.waits = st.waits ++ [(i, pad64 (f.take 64))] := by unfold DSt.changed; split <;> rfl
        obtain ⟨m, h1, h2, h3⟩ := wrs_some n (st.put i (pad64 (f.take 64))).changed (i + 1) (f.drop 64) (by
          rw [hc1, List.length_drop]
          by_cases h64 : f.length ≤ 64
          · have : i < st.last.length := by omega
            omega
          · omega)
        rw [hw, if_pos rfl]
        refine ⟨m + 1, by rw [h1, hc1], by rw [h2, hc2, List.take_succ_cons]; simp, fun h => by rw [List.take_succ_cons, h3 h]⟩
      · have hw : st.write (i : Int) (f.take 64) = (st, 32) := by unfold DSt.write DSt.may; rw [hd]; rfl
        rw [hw, if_neg (show ¬ (32 : Int) = 0 by decide)]
        exact ⟨0, rfl, by simp, fun h => absurd h (show ¬ (32 : Int) = 0 by decide)⟩
theorem torn_part (d old : List UInt8) (t r : Nat) (h : d.take r = old.take r) (hd : d.length = 64) (ht : t ≤ 64) : (torn d old t).take r = old.take r := by
  unfold torn
  by_cases hr : r ≤ t
  · rw [List.take_append_of_le_length (by rw [List.length_take]; omega), List.take_take, Nat.min_eq_left hr, h]
  · rw [List.take_append, List.length_take, hd, Nat.min_eq_left ht, List.take_take, Nat.min_eq_right (by omega)]
    have e : d.take t = old.take t := by
      have := congrArg (List.take t) h
      rwa [List.take_take, List.take_take, Nat.min_eq_left (by omega)] at this
    rw [e, ← List.take_add]
    congr 1; omega
theorem torn_len (d old : List UInt8) (t : Nat) (hd : d.length = 64) (ho : old.length = 64) (ht : t ≤ 64) : (torn d old t).length = 64 := by
  unfold torn; rw [List.length_append, List.length_take, List.length_drop]; omega
/-- whatever the power does while a frame is laid behind -/
theorem Rest.power {st st1 : DSt} (h : Rest st) (hl : st1.last = st.last) (hw : st1.waits = []) (fr to en : Nat) (b : List UInt8) (hf : fr ≤ to ∧ to ≤ st.last.length) (hroom : en + b.length + 16 ≤ (to - fr) * 64) (k t : Int) :
    Rest ((st1.append fr en b).1.crash k t) ∧ ((st1.append fr en b).1.crash k t).last.length = st.last.length ∧ (flat ((st1.append fr en b).1.crash k t).last fr).take en = (flat st.last fr).take en ∧
      ((st1.append fr en b).2 = 0 → (flat ((st1.append fr en b).1.crash k t).last fr).take (en + b.length + 16) = (flat st.last fr).take en ++ frameL b) := by
  have hcalm : ∀ (w : List (List UInt8)), Calm { last := w, waits := [], armed := -1, down := false } := fun w => ⟨rfl, show (-1 : Int) < 0 by decide⟩
  have hc0 : ∀ (s : DSt), s.waits = [] → s.crash k t = { last := s.last, waits := [], armed := -1, down := false } := fun s hs => by
    unfold DSt.crash
    rw [DSt.crashed_none _ _ _ (by rw [hs]; simp)]
    unfold DSt.settle
    rw [hs]; simp [setAll]
  cases hd : st1.down
  case true =>
    rw [append_down hd, hc0 st1 hw, hl]
    exact ⟨⟨hcalm _, rfl, h.sec⟩, rfl, rfl, fun e => absurd e (show ¬ (32 : Int) = 0 by decide)⟩
  case false =>
    have hjl := jall_len st fr en b
    have hpart := h.part fr en (by omega)
    have hja : jall st1 fr en b = jall st fr en b := by
      unfold jall jpart DSt.read DSt.may
      rw [hd, hl, hw, h.calm.down, h.waits]
    have hpl : (jpart st fr en).length = en % 64 := by
      have := congrArg List.length hpart
      rw [List.length_append, List.length_take, List.length_take] at this
      have h2 : (flat st.last fr).length = 64 * (st.last.length - fr) := by
        unfold flat
        rw [flat_sum _ (fun s hs => h.sec s (List.mem_of_mem_drop hs)), List.length_drop]
      omega
    have hpj : (jall st fr en b).take (en % 64) = jpart st fr en := by
      unfold jall
      rw [List.take_append_of_le_length (by omega), List.take_of_length_le (by omega)]
    have hjp : jpart st fr en = (st.last.getD (fr + en / 64) []).take (en % 64) := by
      have h1 := flat_parts h.sec (fr := fr) (en := en) (by omega)
      rw [← hpart] at h1
      have h3 : (flat st.last fr).take (64 * (en / 64)) = ((st.last.take (fr + en / 64)).drop fr).flatten := by
        unfold flat
        rw [flat_take _ _ (fun s hs => h.sec s (List.mem_of_mem_drop hs)), List.drop_take, show fr + en / 64 - fr = en / 64 by omega]
      rw [h3] at h1
      exact List.append_cancel_left h1
    have hgood : ∀ x ∈ laidL ((jall st fr en b).length + 1) (fr + en / 64) (jall st fr en b), fr + en / 64 ≤ x.1 ∧ x.2.length = 64 ∧ (x.1 = fr + en / 64 → x.2.take (en % 64) = (st.last.getD (fr + en / 64) []).take (en % 64)) := fun x hx => by
      obtain ⟨h1, h2, h3⟩ := laid_mem _ _ _ x hx
      refine ⟨h1, h2, fun e => ?_⟩
      rw [h3 e, ← hjp, ← hpj]
      unfold pad64
      have hjn : en % 64 ≤ (jall st fr en b).length := by
        have := congrArg List.length hpj
        rw [List.length_take, hpl] at this; omega
      rw [List.take_append_of_le_length (by rw [List.length_take]; omega), List.take_take, Nat.min_eq_left (by omega)]
    obtain ⟨m, h1, h2, h3⟩ := wrs_some ((jall st fr en b).length + 1) st1 (fr + en / 64) (jall st fr en b) (by rw [hl]; omega)
    rw [hl] at h1
    rw [hw, List.nil_append] at h2
    generalize hL : laidL ((jall st fr en b).length + 1) (fr + en / 64) (jall st fr en b) = L at *
    -- what a crash of a disk that waits leaves
    have hcr : ∀ (s : DSt), s.last = st.last → s.waits = L.take m → Rest (s.crash k t) ∧ (s.crash k t).last.length = st.last.length ∧ (flat (s.crash k t).last fr).take en = (flat st.last fr).take en := fun s hs1 hs2 => by
      have ha : ∀ n, Alike fr en st.last (setAll st.last (s.waits.take n)) := fun n => Alike.setAll _ _ (.refl h.sec) (fun x hx => hgood x (by rw [hs2] at hx; exact List.mem_of_mem_take (List.mem_of_mem_take hx)))
      have hfin : ∃ l', s.crash k t = { last := l', waits := [], armed := -1, down := false } ∧ Alike fr en st.last l' := by
        unfold DSt.crash
        generalize clampN k s.waits.length = n
        have ht : clampN t 64 ≤ 64 := clamp_le t 64
        generalize clampN t 64 = t' at *
        cases hx : s.waits[n]? with
        | none =>
          refine ⟨_, DSt.crashed_none _ _ _ (by simpa using hx), ?_⟩
          unfold DSt.settle
          rw [hs1]
          exact ha n
        | some x =>
          refine ⟨_, DSt.crashed_some _ _ _ x hx, ?_⟩
          have hal := ha n
          have hxm : x ∈ L := by
            have := List.mem_of_getElem? hx
            rw [hs2] at this
            exact List.mem_of_mem_take this
          obtain ⟨g1, g2, g3⟩ := hgood x hxm
          show Alike fr en st.last ((s.settle n).last.set x.1 (torn x.2 ((s.settle n).last.getD x.1 []) t'))
          have e : (s.settle n).last = setAll st.last (s.waits.take n) := by unfold DSt.settle; rw [hs1]
          rw [e]
          generalize setAll st.last (s.waits.take n) = l' at *
          by_cases hlt : x.1 < l'.length
          · have ho : (l'.getD x.1 []).length = 64 := by rw [getD_at hlt]; exact hal.sec _ (List.getElem_mem _)
            refine hal.set g1 (torn_len _ _ _ g2 ho ht) (fun e => ?_)
            rw [← hal.part, ← e]
            exact torn_part _ _ _ _ (by rw [e, hal.part]; exact g3 e) g2 ht
          · rw [List.set_eq_of_length_le (by omega)]; exact hal
      obtain ⟨l', e, hal⟩ := hfin
      rw [e]
      exact ⟨⟨hcalm _, rfl, hal.sec⟩, hal.len, hal.flat h.sec (by omega)⟩
    obtain ⟨_, a2, a3, a4⟩ := h.appended fr to en b hf hroom
    have hac := append_calm h.calm fr to en b hf hroom
    rw [h.waits, List.nil_append, hL] at hac
    rw [hac] at a2 a3 a4
    unfold DSt.append
    rw [hja]
    by_cases hz : (wrs ((jall st fr en b).length + 1) st1 (fr + en / 64) (jall st fr en b)).2 = 0
    · rw [if_pos hz]
      have hall := h3 hz
      generalize (wrs ((jall st fr en b).length + 1) st1 (fr + en / 64) (jall st fr en b)).1 = s at *
      unfold DSt.flush
      cases hsd : s.down
      · simp only [Bool.false_eq_true, if_false]
        have hq1 : ({ s.settle s.waits.length with waits := [] } : DSt).changed.waits = [] := by unfold DSt.changed; split <;> rfl
        have hq2 : ({ s.settle s.waits.length with waits := [] } : DSt).changed.last = setAll st.last L := by
          have : ({ s.settle s.waits.length with waits := [] } : DSt).changed.last = (s.settle s.waits.length).last := by unfold DSt.changed; split <;> rfl
          rw [this]
          unfold DSt.settle
          rw [List.take_length, h1, h2, hall]
        rw [hc0 _ hq1, hq2]
        refine ⟨⟨hcalm _, rfl, a2.sec⟩, a3, ?_, fun _ => a4⟩
        exact (Alike.setAll _ _ (.refl h.sec) hgood).flat h.sec (by omega)
      · simp only [if_true]
        obtain ⟨c1, c2, c3⟩ := hcr s h1 h2
        exact ⟨c1, c2, c3, fun e => absurd e (show ¬ (32 : Int) = 0 by decide)⟩
    · rw [if_neg hz]
      obtain ⟨c1, c2, c3⟩ := hcr _ h1 h2
      exact ⟨c1, c2, c3, fun e => absurd e hz⟩
end Go.Proofs.Ytdhhpnfdnoaihaa

/-! J11 -/
/- SameLists, of lists that are the same; rows of byte rows that are read. -/
namespace Go.Proofs.Ytdhhpnfdnoaihaa
open Go.RowKit

theorem RdSS.cell {w : World} {a : Option Addr} {ls : List (List UInt8)} (h : RdSS w a ls) {k : Nat} (hk : k < ls.length) :
    ∃ b o pa pc, a = some ⟨b, o, none⟩ ∧ w.cell? ⟨b, o + k, none⟩ = some (.slice pa ls[k].length pc) ∧ Rd w pa ls[k] := by
  rcases h with rfl | ⟨b, o, rfl, hc⟩
  · simp at hk
  · obtain ⟨v, hv, pa, pc, rfl, hr, _⟩ := hc k hk
    exact ⟨b, o, pa, pc, rfl, hv, hr⟩
theorem LRow.rdss {w : World} {base : Nat} {a : Option Addr} {n c : Nat} {ls : List (List UInt8)} (h : LRow w base (.slice a n c) ls) (hl : ∀ l ∈ ls, l.length ≤ 140737488351232) : RdSS w a ls := by
  by_cases h0 : ls = []
  · exact .inl h0
  obtain ⟨vs, h1, h2⟩ := h
  have hpos : 0 < ls.length := by
    cases ls with
    | nil => exact absurd rfl h0
    | cons _ _ => simp
  obtain ⟨g, cap, rest, e, _, hb, _⟩ := OwnR.open1 (S := fun _ => True) ⟨row_base h1 (Nat.zero_le _), fun _ _ => trivial⟩ hpos
  injection e with e1 e2 e3
  refine .inr ⟨g, 0, e1, fun i hi => ?_⟩
  obtain ⟨a', c', hv, ho⟩ := h2 i hi
  obtain ⟨ra, rc, re, hr⟩ := ho.rd
  obtain ⟨rfl, rfl⟩ : a' = ra ∧ c' = rc := by cases re; exact ⟨rfl, rfl⟩
  refine ⟨_, ?_, a', c', rfl, hr, hl _ (List.getElem_mem _)⟩
  rw [Nat.zero_add]
  exact hb.is (by rw [List.getElem?_append_left (by have := h1.1; omega)]; exact hv)
set_option maxRecDepth 100000 in
set_option maxHeartbeats 1600000 in
theorem samelists_any (w : World) (a1 a2 : Option Addr) (c1 c2 n : Nat) (ls : List (List UInt8)) (hn : n = ls.length) (h1 : RdSS w a1 ls) (h2 : RdSS w a2 ls) (hl : ls.length ≤ 100000000) :
    Calls Try.prog 49 #[.slice a1 n c1, .slice a2 n c2] w fun e w' => e = .returned (.bool true) ∧ ∃ m, w' = w.drewN m := by
  subst hn
  have H1 := hid h1
  have H2 := hid h2
  clear h1 h2
  go_enter Try.func49, Try.ntmps49
  go_wp2
  go_loopw [5] (fun i wr => ∃ k m : Nat, k ≤ ls.length ∧ i = .int .i64 k ∧ wr = w.drewN m) (fun i _ => ls.length - (intOf i).toNat)
  case atStart => exact ⟨0, 0, by omega, rfl, rfl⟩
  case round =>
    obtain ⟨k, m, hk, rfl, rfl⟩ := hrel
    by_cases hlt : k < ls.length
    · have hlt' : (k : Int) < (ls.length : Int) := by omega
      obtain ⟨b1, o1, pa1, pc1, rfl, hc1, hr1⟩ := H1.out.cell hlt
      obtain ⟨b2, o2, pa2, pc2, rfl, hc2, hr2⟩ := H2.out.cell hlt
      have hs1 : ∀ q, (convert 27 9 (.slice pa1 ls[k].length pc1)).run Try.prog ((w.drewN m).drewN q) = .ok (Str ls[k]) ((w.drewN m).drewN q) := fun q => str_rd (show Rd ((w.drewN m).drewN q) pa1 _ from hr1) _ _ rfl
      have hs2 : ∀ q, (convert 27 9 (.slice pa2 ls[k].length pc2)).run Try.prog ((w.drewN m).drewN q) = .ok (Str ls[k]) ((w.drewN m).drewN q) := fun q => str_rd (show Rd ((w.drewN m).drewN q) pa2 _ from hr2) _ _ rfl
      have hc1' : (w.drewN m).cell? ⟨b1, o1 + k, none⟩ = some (.slice pa1 ls[k].length pc1) := hc1
      have hc2' : (w.drewN m).cell? ⟨b2, o2 + k, none⟩ = some (.slice pa2 ls[k].length pc2) := hc2
      obtain ⟨ss, hss⟩ : ∃ ss, Str ls[k] = .string ss := ⟨_, rfl⟩
      rw [hss] at hs1 hs2
      clear hss hr1 hr2 hc1 hc2 H1 H2
      generalize ls[k].length = n1 at *
      generalize hW : w.drewN m = W at *
      go_wp2_with fail
      go_quiet (fail)
      go_wp2_with fail
      go_roundw
      case rel => exact ⟨k + 1, m + nq, by omega, by go_num, by rw [← hW]; exact World.drewN_drewN _ _ _⟩
      case measure => simp [intOf]; omega
    · obtain rfl : k = ls.length := by omega
      have hlt' : ¬ (ls.length : Int) < (ls.length : Int) := by omega
      go_wp2_with fail
      go_ret
      exact ⟨rfl, m, rfl⟩
end Go.Proofs.Ytdhhpnfdnoaihaa

/-! J12 -/
/- An Append while the power may go; rows of byte rows that were handed in. -/
namespace Go.Proofs.Ytdhhpnfdnoaihaa
open Go.RowKit

def FatePost (w0 w : World) (S : Nat → Prop) (p j : Nat) (st : DSt) (en ct : Nat) (b : List UInt8) (e : Ending) (w' : World) : Prop :=
  ∃ S' st2 code, e = .returned (.int .i64 code) ∧ Live w0 w' S' p st2 ∧ IsJ w' j p 0 300 (if code = 0 then ((en + b.length + 16 : Nat) : Int) else (en : Int)) (if code = 0 then ((ct + 1 : Nat) : Int) else (ct : Int)) ∧
    Mod (fun x => S x ∨ x = j) w w' ∧ (∀ x, x < w.heap.size → S' x → S x) ∧ ∀ k t, Rest (st2.crash k t) ∧ (st2.crash k t).last.length = 300 ∧ (flat (st2.crash k t).last 0).take en = (flat st.last 0).take en ∧
      (code = 0 → b.length ≤ 1048576 ∧ en + b.length + 16 ≤ 19200 ∧ (flat (st2.crash k t).last 0).take (en + b.length + 16) = (flat st.last 0).take en ++ frameL b)
theorem crash_still {st st1 : DSt} (h : Rest st) (hl : st1.last = st.last) (hw : st1.waits = []) (k t : Int) : Rest (st1.crash k t) ∧ (st1.crash k t).last = st.last := by
  have e : st1.crash k t = { last := st1.last, waits := [], armed := -1, down := false } := by
    unfold DSt.crash
    rw [DSt.crashed_none _ _ _ (by rw [hw]; simp)]
    unfold DSt.settle
    rw [hw]; simp [setAll]
  rw [e]
  exact ⟨⟨⟨rfl, show (-1 : Int) < 0 by decide⟩, rfl, by show ∀ s ∈ st1.last, _; rw [hl]; exact h.sec⟩, hl⟩
theorem append_fate (w0 w : World) (S : Nat → Prop) (p j : Nat) (st st1 : DSt) (h : Live w0 w S p st1) (hst : Rest st) (hl : st1.last = st.last) (hw : st1.waits = []) (hlen : st.last.length = 300) (en ct : Nat) (hen : en ≤ 19200) (hct : ct ≤ 1000)
    (hj : IsJ w j p 0 300 en ct) (hjS : ¬ S j) (hj0 : w0.heap.size ≤ j) (a : Option Addr) (c : Nat) (b : List UInt8) (hr : Rd w a b) (hbl : b.length ≤ 140737488351232) :
    Calls Try.prog 47 #[.pointer (some ⟨j, 0, none⟩), .slice a b.length c] w (FatePost w0 w S p j st en ct b) := by
  have hsame : ∀ (code : Int) (w' : World), code ≠ 0 → Mod None w w' → FatePost w0 w S p j st en ct b (.returned (.int .i64 code)) w' := fun code w' hc hm => by
    refine ⟨S, st1, code, rfl, h.step hm, ?_, hm.mono (fun _ _ h => h.elim), fun _ _ h => h, fun k t => ?_⟩
    · rw [if_neg hc, if_neg hc]; exact hm.blk hj (fun h => h)
    · obtain ⟨h1, h2⟩ := crash_still hst hl hw k t
      exact ⟨h1, by rw [h2, hlen], by rw [h2], fun e => absurd e hc⟩
  by_cases h1 : 1048576 < b.length
  · exact (append_long w j a c b.length h1).mono fun e w' ⟨he, hm⟩ => by rw [he]; exact hsame 3 w' (by decide) hm
  by_cases h2 : en + b.length + 16 ≤ 19200
  · refine (append_any w0 w S p j st1 h 0 300 en ct hj hjS hj0 a c b hr (by rw [hl]; omega) (by omega) (by omega) (by omega) (by omega) (by rw [hw]; simp)).mono ?_
    rintro e w' ⟨S', rfl, g1, g2, g3, g4⟩
    refine ⟨S', _, _, rfl, g1, g2, g3, g4, fun k t => ?_⟩
    obtain ⟨c1, c2, c3, c4⟩ := hst.power hl hw 0 300 en b (by omega) (by omega) k t
    exact ⟨c1, by rw [c2, hlen], c3, fun e => ⟨by omega, h2, c4 e⟩⟩
  · exact (append_full w j p 0 300 en ct hj a c b.length (by omega) (by omega) (by omega) (by omega)).mono fun e w' ⟨he, hm⟩ => by rw [he]; exact hsame 51 w' (by decide) hm
/-- a row of the call's own, of byte rows that lay there -/
def PRow (w0 w : World) (base : Nat) (v : Value) (ls : List (List UInt8)) : Prop :=
  ∃ vs : List Value, w.ownsRow base 27 1 v ls.length vs ∧ ∀ i, (h : i < ls.length) → ∃ u, vs[i]? = some u ∧ Part w0 u ls[i]
theorem PRow.nil (w0 w : World) (base : Nat) : PRow w0 w base (.slice none 0 0) [] := ⟨[], World.ownsRow_nil _ _ _ _, fun i h => absurd h (by simp)⟩
theorem PRow.kept {w0 w w' : World} {base : Nat} {v : Value} {ls : List (List UInt8)} (h : PRow w0 w base v ls) {S : Nat → Prop} (hm : Mod S w w') (hS : ∀ k, v.ownBlock = some k → ¬ S k) : PRow w0 w' base v ls := by
  obtain ⟨vs, h1, h2⟩ := h
  exact ⟨vs, ownsRow_kept h1 hm hS, h2⟩
theorem PRow.step {w0 w w' : World} {base : Nat} {v : Value} {ls : List (List UInt8)} (h : PRow w0 w base v ls) (hm : Mod None w w') : PRow w0 w' base v ls := h.kept hm (fun _ _ h => h)
theorem PRow.shape {w0 w : World} {base : Nat} {v : Value} {ls : List (List UInt8)} (h : PRow w0 w base v ls) : ∃ a c, v = .slice a ls.length c := by
  obtain ⟨vs, h1, _⟩ := h
  rcases h1.2 with ⟨rfl, h0⟩ | ⟨g, cap, cur, rfl, _⟩
  · exact ⟨none, 0, by rw [h0]⟩
  · exact ⟨_, cap, rfl⟩
theorem PRow.rdss {w0 w : World} {base : Nat} {a : Option Addr} {n c : Nat} {ls : List (List UInt8)} (h : PRow w0 w base (.slice a n c) ls) (hm : Mod None w0 w) : RdSS w a ls := by
  by_cases h0 : ls = []
  · exact .inl h0
  obtain ⟨vs, h1, h2⟩ := h
  have hpos : 0 < ls.length := by
    cases ls with
    | nil => exact absurd rfl h0
    | cons _ _ => simp
  obtain ⟨g, cap, rest, e, _, hb, _⟩ := OwnR.open1 (S := fun _ => True) ⟨row_base h1 (Nat.zero_le _), fun _ _ => trivial⟩ hpos
  injection e with e1 e2 e3
  refine .inr ⟨g, 0, e1, fun i hi => ?_⟩
  obtain ⟨u, hv, hp⟩ := h2 i hi
  refine ⟨u, ?_, hp.mod hm (fun _ _ h => h)⟩
  rw [Nat.zero_add]
  exact hb.is (by rw [List.getElem?_append_left (by have := h1.1; omega)]; exact hv)
theorem PRow.snoc {w0 w1 w' : World} {base : Nat} {v v' : Value} {ls : List (List UInt8)} {u : Value} {l : List UInt8} {vs : List Value}
    (h1 : w1.ownsRow base 27 1 v ls.length vs) (h2 : ∀ i, (h : i < ls.length) → ∃ u, vs[i]? = some u ∧ Part w0 u ls[i]) (hp : Part w0 u l)
    (g2 : w'.ownsRow 0 27 1 v' (ls.length + 1) (vs ++ [u])) (g4 : ∀ g, v'.ownBlock = some g → v.ownBlock = some g ∨ (w1.heap.size ≤ g ∧ g < w'.heap.size)) (hb : base ≤ w1.heap.size) : PRow w0 w' base v' (ls ++ [l]) := by
  have hb' : ∀ g, v'.ownBlock = some g → base ≤ g := fun g hg => by
    rcases g4 g hg with h | h
    · exact (h1.lt g h).1
    · omega
  have hl1 : vs.length = ls.length := by simpa using h1.1
  refine ⟨vs ++ [u], ?_, fun i hi => ?_⟩
  · rw [List.length_append]
    refine ⟨g2.1, ?_⟩
    rcases g2.2 with h | ⟨g, cap, cur, rfl, _, r⟩
    · exact .inl h
    · exact .inr ⟨g, cap, cur, rfl, hb' g rfl, r⟩
  · by_cases hlt : i < ls.length
    · obtain ⟨u', e, ho'⟩ := h2 i hlt
      refine ⟨u', ?_, ?_⟩
      · rw [List.getElem?_append_left (by omega)]; exact e
      · rw [List.getElem_append_left hlt]; exact ho'
    · obtain rfl : i = ls.length := by simp at hi; omega
      refine ⟨u, ?_, ?_⟩
      · rw [List.getElem?_append_right (by omega), hl1]; simp
      · simp only [List.getElem_concat_length]; exact hp
end Go.Proofs.Ytdhhpnfdnoaihaa

/-! V4 -/
/- How an array of three numbers reads. -/
namespace Go.Proofs.Ytdhhpnfdnoaihaa
open Go.RowKit

theorem v_und70 : Try.prog.underlying 70 = some (.array 3 3) := by kernel_rfl
theorem v_cells70 : Try.prog.cellsOf 70 = 3 := by kernel_rfl
/-- three numbers by value -/
def VArr3 (v : Value) (q : Int × Int × Int) : Prop := v = .agg #[.int .i64 q.1, .int .i64 q.2.1, .int .i64 q.2.2] ∧ In64 q.1 ∧ In64 q.2.1 ∧ In64 q.2.2
set_option maxRecDepth 100000 in
theorem view_arr3 {H : Type} {enc : TypeId × Value → H} {w : World} {n : Nat} {v : Value} {d : DataW H} {ps : List MemPlace} {r : Reach} {b0 : Nat} (hv : Value.okWide Try.prog w r b0 70 v)
    (h : Rdg enc w n 70 v.cells.toList = some (d, ps)) (_ : Small 70 d) : ∃ q, VArr3 v q := by
  simp only [Value.okWide, v_und70] at hv
  obtain ⟨cs, rfl, hs, _⟩ := hv
  rw [v_cells70] at hs
  obtain ⟨xs, m, _, _, _, _, hx⟩ := DataW.trod_array v_und70 h
  have key : ∀ i, i < 3 → ∃ b : Int, cs[i]? = some (.int .i64 b) ∧ In64 b := by
    intro i hi
    have h1 := hx i hi
    rw [v_cells3, Nat.mul_one] at h1
    have hlen : i < xs.length := by omega
    rw [List.getElem?_eq_getElem hlen] at h1
    obtain ⟨b, hb, hin⟩ := trod_int64 h1
    refine ⟨b, ?_, hin⟩
    have h2 := congrArg (fun l => l[0]?) hb
    simp only [Value.cells] at h2
    rw [List.getElem?_take, if_pos (by omega), List.getElem?_drop] at h2
    simpa using h2
  obtain ⟨q0, h0, i0⟩ := key 0 (by omega)
  obtain ⟨q1, h1, i1⟩ := key 1 (by omega)
  obtain ⟨q2, h2, i2⟩ := key 2 (by omega)
  refine ⟨(q0, q1, q2), ?_, i0, i1, i2⟩
  congr 1
  apply Array.ext_getElem?
  intro i
  match i with
  | 0 => rw [h0]; rfl
  | 1 => rw [h1]; rfl
  | 2 => rw [h2]; rfl
  | i + 3 => rw [Array.getElem?_eq_none (by omega), Array.getElem?_eq_none (by simp)]
end Go.Proofs.Ytdhhpnfdnoaihaa

/-! X12 -/
/- The walk of JournalTorn. -/
namespace Go.Proofs.Ytdhhpnfdnoaihaa
open Go.RowKit

/-- what is laid so far: w0 the call's world, w1 that behind the box -/
def tornRel (w0 w1 wr : World) (p j : Nat) (v : Value) (done : List (List UInt8)) (en : Nat) : Prop :=
  ∃ S st, Live w1 wr S p st ∧ Rest st ∧ st.last.length = 300 ∧ IsJ wr j p 0 300 (en : Nat) (done.length : Nat) ∧ ¬ S j ∧ w1.heap.size ≤ j ∧ PRow w0 wr w1.heap.size v done ∧ (∀ g, v.ownBlock = some g → ¬ S g ∧ g ≠ j) ∧
    (flat st.last 0).take en = frames done ∧ (∀ l ∈ done, l.length ≤ 200) ∧ en ≤ 216 * done.length
theorem rest_new2 (n : Nat) : Rest (DSt.new n) := ⟨⟨rfl, show (-1 : Int) < 0 by decide⟩, rfl, fun s hs => by simp [DSt.new] at hs; rw [hs.2]; simp [zeros64]⟩
set_option maxRecDepth 100000 in
set_option maxHeartbeats 1600000 in
theorem JournalTorn_walk (w : World) (v0 : Value) (l0 : List (List UInt8)) (w0 : VBytess w v0 l0) (v1 : Value) (b : List UInt8) (w1 : VBytes w v1 b) (v2 : Value) (q : Int × Int × Int) (w2 : VArr3 v2 q) :
    Calls Try.prog 15 #[v0, v1, v2] w fun e w' => e = .returned (.bool true) ∧ Below w.heap.size w w' := by
  obtain ⟨a0, cap0, rfl, hlen0, hseen⟩ := w0
  obtain ⟨a, cap, rfl, hlen, hrd⟩ := w1
  obtain ⟨q0, q1, q2⟩ := q
  obtain ⟨rfl, hq0, hq1, hq2⟩ := w2
  dsimp only at hq0 hq1 hq2
  have HS := hid (VBytess.ss hseen (Mod.refl None w))
  have HRD := hid hrd
  have HQ := hid (And.intro hq0 (And.intro hq1 hq2))
  have HLEN := hid hlen
  clear hseen hrd hq0 hq1 hq2
  go_enter Try.func15, Try.ntmps15
  go_wp2_with fail
  obtain ⟨W1, hW1⟩ : ∃ W1, W1 = w.alloc (.cells #[.int .i64 q0, .int .i64 q1, .int .i64 q2] 70) := ⟨_, rfl⟩
  rw [← hW1]
  have HM0 := hid (show Mod None w W1 by rw [hW1]; exact (Mod.refl _ _).alloc _)
  have HBX := hid (show Blk W1 w.heap.size 70 [.int .i64 q0, .int .i64 q1, .int .i64 q2] by rw [hW1]; exact Blk.new w 70 _)
  clear hW1
  refine (live_new W1 W1 (Mod.refl _ _) 300 300 (by omega)).mono ?_
  rintro e w2 ⟨p, S, rfl, hl, _, _⟩
  have HL := hid hl
  clear hl
  go_wp2_with fail
  refine (open0_any W1 w2 S p (DSt.new 300) HL.out 300 (by simp [DSt.new]) rfl).mono ?_
  rintro e w3 ⟨j, rfl, hj, hjn, hm, hl⟩
  have HR3 : Hid (tornRel w W1 w3 p j (.slice none 0 0) [] 0) := hid ⟨S, DSt.new 300, hl, rest_new2 300, by simp [DSt.new], hj, fun hs => by have := HL.out.lt j hs; omega, Nat.le_trans HL.out.2.1.size hjn, PRow.nil _ _ _, fun g hg => by simp [Value.ownBlock] at hg, by simp [frames], by simp, by omega⟩
  clear hj hjn hm hl HL
  go_wp2_with fail
  refine (awake5_any w3).mono ?_
  rintro e w4 ⟨rfl, hm⟩
  have HR4 : Hid (tornRel w W1 w4 p j (.slice none 0 0) [] 0) := by
    obtain ⟨S, st, h1, h2, h3, h4, h5, h6, h7, h8⟩ := HR3.out
    exact hid ⟨S, st, h1.step hm, h2, h3, hm.blk h4 (fun h => h), h5, h6, h7.kept hm (fun _ _ h => h), h8⟩
  clear hm HR3
  go_wp2_with fail
  go_loopw [11, 12] (fun v i wr => ∃ (k en : Nat) (done : List (List UInt8)), k ≤ l0.length ∧ k ≤ 20 ∧ done.length ≤ k ∧ i = .int .i64 k ∧ Hid (tornRel w W1 wr p j v done en)) (fun _ i _ => l0.length - (intOf i).toNat)
  case atStart => exact ⟨0, 0, [], by omega, by omega, by simp, rfl, HR4.out⟩
  case round =>
    obtain ⟨k, en, done, hk, hk20, hdk, rfl, hr⟩ := hrel
    clear HR4
    by_cases hlt : k < l0.length
    · have hlt' : (k : Int) < (l0.length : Int) := by omega
      by_cases hlt20 : k < 20
      · have hlt20' : (k : Int) < 20 := by omega
        obtain ⟨S, st, hl, hrest, hlen, hj, hjS, hj0, hrow, hfar, hfl, hdl, hen⟩ := hr.out
        have HL := hid hl
        have HST := hid (And.intro hrest hlen)
        have HJ := hid hj
        have HJS := hid (And.intro hjS hj0)
        have HROW := hid hrow
        have HFAR := hid hfar
        have HFL := hid (And.intro hfl (And.intro hdl hen))
        clear hl hrest hlen hj hjS hj0 hrow hfar hfl hdl hen
        have HMW := hid (HM0.out.trans HL.out.2.1)
        rcases HS.out with h0 | ⟨bb, o, rfl, hc⟩
        · rw [h0] at hlt; simp at hlt
        obtain ⟨u, hu, hpart⟩ := hc k hlt
        have HBW := hid (show bb < w.heap.size from World.block_lt_of_cell? w _ hu)
        have HP := hid hpart
        obtain ⟨pa, pc, rfl, hprd, hpl⟩ := hpart
        have hcell : wr.cell? ⟨bb, o + k, none⟩ = some (.slice pa l0[k].length pc) := (HMW.out.cell (p := ⟨bb, o + k, none⟩) (World.block_lt_of_cell? w _ hu) (fun h => h)).trans hu
        have HPRD := hid (HMW.out.rd hprd (fun _ _ h => h))
        clear hc hu hprd hpl
        generalize hx : l0[k] = x at *
        clear hx
        by_cases hlong : x.length ≤ 200
        · have hlong' : (x.length : Int) ≤ 200 := by omega
          obtain ⟨r1, r2, r3, r4⟩ := HST.out.1.appended 0 300 en x (by rw [HST.out.2]; omega) (by have := HFL.out.2.2; omega)
          have HAP := hid (And.intro r2 (And.intro r3 r4))
          have HOK := hid (append_ok HL.out (fr := 0) (to := 300) (en := en) (ct := done.length) HJ.out HJS.out.1 HJS.out.2 pa pc x.length x rfl HPRD.out (by rw [HST.out.2]; omega) (by omega) (by have := HFL.out.2.2; omega) (by have := HFL.out.2.2; omega) (by omega) HST.out.1.calm.down (by rw [HST.out.1.waits]; simp) r1)
          clear r1 r2 r3 r4 hr
          go_wp2_with fail
          refine HOK.out.mono ?_
          rintro e w5 ⟨S5, rfl, hl5, hj5, hm5, hS5⟩
          have HL5 := hid hl5
          have HJ5 := hid hj5
          have HJS5 := hid (show ¬ S5 j from fun hs => HJS.out.1 (hS5 j HJ.out.lt hs))
          have HROW5 := hid (HROW.out.kept hm5 (fun g hg hs => by
            rcases hs with hs | hs
            · exact (HFAR.out g hg).1 hs
            · exact (HFAR.out g hg).2 hs))
          have HLT5 := hid (show ∀ g, u11.ownBlock = some g → ¬ S5 g ∧ g ≠ j from fun g hg => ⟨fun hs => (HFAR.out g hg).1 (hS5 g (by obtain ⟨vs, h1, _⟩ := HROW.out; exact (h1.lt g hg).2) hs), (HFAR.out g hg).2⟩)
          have hcell5 : w5.cell? ⟨bb, o + k, none⟩ = some (.slice pa x.length pc) := by
            have hb1 := World.block_lt_of_cell? wr _ hcell
            have hbw : bb < w.heap.size := HBW.out
            rw [hm5.cell (p := ⟨bb, o + k, none⟩) hb1 (fun hs => by
              have h1 := HM0.out.size
              rcases hs with hs | hs
              · have := HL.out.2.2 bb hs; omega
              · have e : bb = j := hs
                have := HJS.out.2; omega)]; exact hcell
          clear hl5 hj5 hm5 hS5 HOK hcell HL HJ HROW HFAR
          obtain ⟨vs, hvs, hel⟩ := HROW5.out
          have HVS := hid (hvs.alloc (.cells #[.slice pa x.length pc] 27))
          have HEL := hid hel
          clear hvs hel
          obtain ⟨i27, hi27, hz27, hs27, hb27⟩ := info_parts o_info27
          go_wp2_with (at_builtin; first | (refine wpList_plain rfl (fun K hK => wp_append_R (.tmp 58) (.tmp 63) 26 rfl 27 i27 (.slice none 0 0) 1 24 v_und26 hi27 hz27 hs27 hb27 rfl (by decide) _ done.length vs rfl (row_base HVS.out (Nat.zero_le _)) _ 1 1 [.slice pa x.length pc] rfl rfl ((Blk.new w5 27 #[.slice pa x.length pc]).rdv 0 (fun i hi => by rw [Nat.zero_add])) (by intro u hu; simp at hu; subst hu; rfl) (by unfold maxLen; omega) (by omega) (fun va vc w6 h2 h3 h4 => hK _ _ ?_))))
          have HW6 : Hid (tornRel w W1 w6 p j (.slice va (done.length + 1) vc) (done ++ [x]) (en + x.length + 16)) := hid (by
            have hT0 : ∀ y, u11.ownBlock = some y → W1.heap.size ≤ y ∧ y < w5.heap.size := fun y hy => by
              obtain ⟨vs', h1, _⟩ := HROW5.out
              exact h1.lt y hy
            have hlv := (HL5.out.alloc (.cells #[.slice pa x.length pc] 27)).turn (T := fun y => u11.ownBlock = some y) (T' := fun y => u11.ownBlock = some y) (.same h3.out) (fun y hs hy => (HLT5.out y hy).1 hs) (fun y hy => (hT0 y hy).1)
            refine ⟨S5, _, hlv.1, HAP.out.1, by rw [HAP.out.2.1]; exact HST.out.2, ?_, HJS5.out, HJS.out.2, ?_, ?_, ?_, ?_, ?_⟩
            · have hj6 := h3.out.blk (HJ5.out.alloc (.cells #[.slice pa x.length pc] 27)) (fun hy => (HLT5.out j hy).2 rfl)
              rw [List.length_append]; exact hj6
            · exact PRow.snoc HVS.out HEL.out HP.out h2.out h4.out (Nat.le_trans HL5.out.2.1.size (by simp))
            · intro g hg
              rcases h4.out g hg with h | h
              · exact HLT5.out g h
              · have h5 := h.1
                simp at h5
                exact ⟨fun hs => by have := HL5.out.lt g hs; omega, fun e => by have := HJ5.out.lt; omega⟩
            · rw [HAP.out.2.2, HFL.out.1, frames_snoc]
            · intro l hl
              rcases List.mem_append.1 hl with hl | hl
              · exact HFL.out.2.1 l hl
              · simp at hl; subst hl; exact hlong
            · have := HFL.out.2.2
              rw [List.length_append, List.length_singleton]; omega)
          clear h2 h3 h4
          go_roundw
          case rel => exact ⟨k + 1, en + x.length + 16, done ++ [x], by omega, by omega, by simp; omega, by go_num, HW6.out⟩
          case measure => simp [intOf]; omega
        · have hlong' : ¬ (x.length : Int) ≤ 200 := by omega
          clear HPRD HP
          go_wp2_with fail
          go_roundw
          case rel => exact ⟨k + 1, en, done, by omega, by omega, by omega, by go_num, hr.out⟩
          case measure => simp [intOf]; omega
      · have hlt20' : ¬ (k : Int) < 20 := by omega
        obtain ⟨S, st, hl, hrest, hlen, hj, hjS, hj0, hrow, hfar, hfl, hdl, hen⟩ := hr.out
        have HL := hid hl
        have HST := hid (And.intro hrest hlen)
        have HJ := hid hj
        have HJS := hid (And.intro hjS hj0)
        have HROW := hid hrow
        have HFAR := hid hfar
        have HFL := hid (And.intro hfl (And.intro hdl hen))
        clear hl hrest hlen hj hjS hj0 hrow hfar hfl hdl hen hr
        have hb0 : wr.cell? ⟨w.heap.size, 0, none⟩ = some (.int .i64 q0) := (HL.out.2.1.blk HBX.out (fun h => h)).is rfl
        have HE := hid (end_any HJ.out)
        have HC := hid (count_any HJ.out)
        have HA := hid (live_arm HL.out q0 HQ.out.1.2)
        go_wp2_with fail
        refine HE.out.mono ?_
        rintro e w5 ⟨rfl, rfl⟩
        go_wp2_with fail
        refine HC.out.mono ?_
        rintro e w5 ⟨rfl, rfl⟩
        go_wp2_with fail
        refine HA.out.mono ?_
        rintro e w5 ⟨S5, rfl, hl5, ht5⟩
        have HL5 := hid hl5
        have HJ5 := hid (show IsJ w5 j p 0 300 (en : Nat) (done.length : Nat) from ht5.mod.blk HJ.out HJS.out.1)
        have HJS5 := hid (show ¬ S5 j from fun hs => HJS.out.1 (ht5.old j HJ.out.lt hs))
        have HROW5 := hid (HROW.out.kept ht5.mod (fun g hg => (HFAR.out g hg).1))
        have HFAR5 := hid (show ∀ g, u11.ownBlock = some g → ¬ S5 g ∧ g ≠ j from fun g hg => ⟨fun hs => (HFAR.out g hg).1 (ht5.old g (by obtain ⟨vs, h1, _⟩ := HROW.out; exact (h1.lt g hg).2) hs), (HFAR.out g hg).2⟩)
        clear hl5 ht5 HE HC HA hb0 HL HJ HROW HFAR
        have HRD5 := hid ((HM0.out.trans HL5.out.2.1).rd HRD.out (fun _ _ h => h))
        have HAF := hid (append_fate W1 w5 S5 p j st (st.arm' q0) HL5.out HST.out.1 (by unfold DSt.arm'; split <;> rfl) (by unfold DSt.arm'; split; exact HST.out.1.waits; exact HST.out.1.waits) HST.out.2 en done.length (by have := HFL.out.2.2; omega) (by omega) HJ5.out HJS5.out HJS.out.2 a cap b HRD5.out HLEN.out)
        go_wp2_with fail
        refine HAF.out.mono ?_
        rintro e w6 ⟨S6, st2, code, rfl, hl6, hj6, hm6, hS6, hfate⟩
        have HL6 := hid hl6
        have HJ6 := hid hj6
        have HFATE := hid (hfate q1 q2)
        have HJS6 := hid (show ¬ S6 j from fun hs => HJS5.out (hS6 j HJ5.out.lt hs))
        have HROW6 := hid (HROW5.out.kept hm6 (fun g hg hs => by
          rcases hs with hs | hs
          · exact (HFAR5.out g hg).1 hs
          · exact (HFAR5.out g hg).2 hs))
        have HFAR6 := hid (show ∀ g, u11.ownBlock = some g → ¬ S6 g ∧ g ≠ j from fun g hg => ⟨fun hs => (HFAR5.out g hg).1 (hS6 g (by obtain ⟨vs, h1, _⟩ := HROW5.out; exact (h1.lt g hg).2) hs), (HFAR5.out g hg).2⟩)
        clear hl6 hj6 hm6 hS6 hfate HAF HL5 HJ5 HROW5 HFAR5 HRD5
        have hb1 : w6.cell? ⟨w.heap.size, 1, none⟩ = some (.int .i64 q1) := (HL6.out.2.1.blk HBX.out (fun h => h)).is rfl
        have hb2 : w6.cell? ⟨w.heap.size, 2, none⟩ = some (.int .i64 q2) := (HL6.out.2.1.blk HBX.out (fun h => h)).is rfl
        have HCR := hid (live_crash HL6.out q1 q2)
        generalize hst3 : st2.crash q1 q2 = st3 at *
        clear hst3
        go_wp2_with fail
        refine HCR.out.mono ?_
        rintro e w7 ⟨S7, rfl, hl7, ht7⟩
        have HL7 := hid hl7
        have HJ7 := hid (ht7.mod.blk HJ6.out HJS6.out)
        have HROW7 := hid (HROW6.out.kept ht7.mod (fun g hg => (HFAR6.out g hg).1))
        have HFAR7 := hid (show ∀ g, u11.ownBlock = some g → ¬ S7 g ∧ g ≠ j from fun g hg => ⟨fun hs => (HFAR6.out g hg).1 (ht7.old g (by obtain ⟨vs, h1, _⟩ := HROW6.out; exact (h1.lt g hg).2) hs), (HFAR6.out g hg).2⟩)
        have HJS7 := hid (show ¬ S7 j from fun hs => HJS6.out (ht7.old j HJ6.out.lt hs))
        clear hl7 ht7 HCR HL6 HJ6 HROW6 HFAR6 hb1 hb2
        have hop := open_any W1 w7 S7 p st3 HL7.out 0 300 en done.length (by rw [HFATE.out.2.1]; omega) (by have := HFL.out.2.2; omega) HFATE.out.1.calm.down
        rw [HFATE.out.1.area 0 en (by rw [HFATE.out.2.1]; have := HFL.out.2.2; omega), HFATE.out.2.2.1, HFL.out.1, open_frames done (fun l hl => by have := HFL.out.2.1 l hl; omega)] at hop
        have HOP := hid hop
        clear hop
        go_wp2_with fail
        refine HOP.out.mono ?_
        rintro e w8 ⟨hm8, ⟨ls, j2, gv, hls, rfl, _, _, hgot⟩ | ⟨h, _⟩⟩
        case inr => cases h
        obtain rfl : ls = done := by cases hls; rfl
        obtain ⟨ga, gc, rfl⟩ := hgot.shape
        obtain ⟨va, vc, hv⟩ := HROW7.out.shape
        have HV := hid hv
        have HL8 := hid (HL7.out.step hm8)
        have HJ8 := hid (hm8.blk HJ7.out (fun h => h))
        have HROW8 := hid (HROW7.out.step hm8)
        have HSAME := hid (samelists_any w8 ga va gc vc ls.length ls rfl (hgot.rdss (fun l hl => by have := HFL.out.2.1 l hl; omega)) ((show PRow w w8 W1.heap.size (.slice va ls.length vc) ls by rw [← hv]; exact HROW8.out).rdss (HM0.out.trans HL8.out.2.1)) (by omega))
        clear hm8 hls hgot HL7 HJ7 HROW7 HOP
        subst hv
        clear HV
        go_wp2_with fail
        refine HSAME.out.mono ?_
        rintro e w9 ⟨rfl, m9, rfl⟩
        have HLD := hid (HL8.out.step (mod_drewN w8 m9))
        have HJD : Hid (IsJ (w8.drewN m9) j p 0 300 (if code = 0 then ((en + b.length + 16 : Nat) : Int) else (en : Int)) (if code = 0 then ((ls.length + 1 : Nat) : Int) else (ls.length : Int))) := HJ8
        have HROWD := hid (HROW8.out.step (mod_drewN w8 m9))
        clear HSAME HL8 HJ8 HROW8
        generalize w8.drewN m9 = w9 at *
        by_cases hcode : code = 0
        · obtain ⟨hb20, hroom, hfl2⟩ := HFATE.out.2.2.2 hcode
          rw [if_pos hcode, if_pos hcode] at HJD
          have HRM := hid (And.intro hb20 hroom)
          have hfr : (flat st3.last 0).take (en + b.length + 16) = frames (ls ++ [b]) := by rw [hfl2, HFL.out.1, frames_snoc]
          have HFR := hid hfr
          obtain ⟨e2, he2⟩ : ∃ e2, e2 = en + b.length + 16 := ⟨_, rfl⟩
          obtain ⟨c2, hc2⟩ : ∃ c2, c2 = ls.length + 1 := ⟨_, rfl⟩
          rw [← he2] at HFR
          rw [← he2, ← hc2] at HJD
          have HE2 := hid (And.intro he2 hc2)
          clear hb20 hroom hfl2 hfr he2 hc2
          obtain ⟨vs, hvs, hel⟩ := HROWD.out
          have HVS := hid (hvs.alloc (.cells #[.slice a b.length cap] 27))
          have HEL := hid hel
          clear hvs hel
          obtain ⟨i27, hi27, hz27, hs27, hb27⟩ := info_parts o_info27
          have HPB := hid (show Part w (.slice a b.length cap) b from ⟨a, cap, rfl, HRD.out, by have := HRM.out.1; omega⟩)
          go_wp2_with (at_builtin; first | (refine wpList_plain rfl (fun K hK => wp_append_R (.tmp 110) (.tmp 112) 26 rfl 27 i27 (.slice none 0 0) 1 24 v_und26 hi27 hz27 hs27 hb27 rfl (by decide) _ ls.length vs rfl (row_base HVS.out (Nat.zero_le _)) _ 1 1 [.slice a b.length cap] rfl rfl ((Blk.new w9 27 #[.slice a b.length cap]).rdv 0 (fun i hi => by rw [Nat.zero_add])) (by intro u hu; simp at hu; subst hu; rfl) (by unfold maxLen; omega) (by omega) (fun va2 vc2 w10 h2 h3 h4 => hK _ _ ?_))))
          have hT0 : ∀ y, (Value.slice va ls.length vc).ownBlock = some y → W1.heap.size ≤ y ∧ y < w9.heap.size := fun y hy => by
            obtain ⟨vs', h1, _⟩ := HROWD.out
            exact h1.lt y hy
          have hlv := (HLD.out.alloc (.cells #[.slice a b.length cap] 27)).turn (T := fun y => (Value.slice va ls.length vc).ownBlock = some y) (T' := fun y => (Value.slice va ls.length vc).ownBlock = some y) (.same h3.out) (fun y hs hy => (HFAR7.out y hy).1 hs) (fun y hy => (hT0 y hy).1)
          have HLX := hid hlv.1
          have HJX := hid (h3.out.blk (HJD.out.alloc (.cells #[.slice a b.length cap] 27)) (fun hy => (HFAR7.out j hy).2 rfl))
          have HPX := hid (PRow.snoc HVS.out HEL.out HPB.out h2.out h4.out (Nat.le_trans HLD.out.2.1.size (by simp)))
          clear h2 h3 h4 hlv HLD HJD HROWD HVS HEL
          have HE9 := hid (end_any HJX.out)
          have HC9 := hid (count_any HJX.out)
          have hjo : jopen (area st3 0 e2) c2 = some (ls ++ [b]) := by
            rw [HFATE.out.1.area 0 e2 (by rw [HFATE.out.2.1]; have := HRM.out.2; have := HE2.out.1; omega), HFR.out]
            have := open_frames (ls ++ [b]) (fun l hl => by
              rcases List.mem_append.1 hl with hl | hl
              · have := HFL.out.2.1 l hl; omega
              · simp at hl; subst hl; have := HRM.out.1; omega)
            rwa [List.length_append, List.length_singleton, ← HE2.out.2] at this
          have hop2 := open_any W1 w10 S7 p st3 HLX.out 0 300 e2 c2 (by rw [HFATE.out.2.1]; omega) (by have := HRM.out.2; have := HE2.out.1; omega) HFATE.out.1.calm.down
          rw [hjo] at hop2
          have HOP2 := hid hop2
          clear hop2 hjo
          go_wp2_with fail
          refine HE9.out.mono ?_
          rintro e w11 ⟨rfl, rfl⟩
          go_wp2_with fail
          refine HC9.out.mono ?_
          rintro e w11 ⟨rfl, rfl⟩
          go_wp2_with fail
          refine HOP2.out.mono ?_
          rintro e w11 ⟨hm11, ⟨ls2, j3, gv2, hls2, rfl, _, _, hgot2⟩ | ⟨h, _⟩⟩
          case inr => cases h
          obtain rfl : ls2 = ls ++ [b] := by cases hls2; rfl
          obtain ⟨ga2, gc2, rfl⟩ := hgot2.shape
          have hll : (ls ++ [b]).length = ls.length + 1 := by simp
          rw [hll] at hgot2
          rw [hll]
          have HMX := hid (HLX.out.2.1.trans hm11)
          have HSAME2 := hid (samelists_any w11 ga2 va2 gc2 vc2 (ls.length + 1) (ls ++ [b]) hll.symm (hgot2.rdss (fun l hl => by
              rcases List.mem_append.1 hl with hl | hl
              · have := HFL.out.2.1 l hl; omega
              · simp at hl; subst hl; have := HRM.out.1; omega)) ((HPX.out.step hm11).rdss (HM0.out.trans HMX.out)) (by rw [hll]; omega))
          clear hm11 hls2 hgot2 HLX HJX HPX HOP2 hll
          go_wp2_with fail
          refine HSAME2.out.mono ?_
          rintro e w12 ⟨rfl, m12, rfl⟩
          go_wp2_with fail
          go_ret
          exact ⟨rfl, (HM0.out.trans (HMX.out.trans (mod_drewN _ _))).below _ (Nat.le_refl _) (fun _ h => h.elim)⟩
        · rw [if_neg hcode, if_neg hcode] at HJD
          have HE9 := hid (end_any HJD.out)
          have HC9 := hid (count_any HJD.out)
          go_wp2_with fail
          refine HE9.out.mono ?_
          rintro e w10 ⟨rfl, rfl⟩
          go_wp2_with fail
          refine HC9.out.mono ?_
          rintro e w10 ⟨rfl, rfl⟩
          go_wp2_with fail
          go_ret
          exact ⟨rfl, (HM0.out.trans HLD.out.2.1).below _ (Nat.le_refl _) (fun _ h => h.elim)⟩
    · have hlt' : ¬ (k : Int) < (l0.length : Int) := by omega
      obtain ⟨S, st, hl, hrest, hlen, hj, hjS, hj0, hrow, hfar, hfl, hdl, hen⟩ := hr.out
      have HL := hid hl
      have HST := hid (And.intro hrest hlen)
      have HJ := hid hj
      have HJS := hid (And.intro hjS hj0)
      have HROW := hid hrow
      have HFAR := hid hfar
      have HFL := hid (And.intro hfl (And.intro hdl hen))
      clear hl hrest hlen hj hjS hj0 hrow hfar hfl hdl hen hr
      have hb0 : wr.cell? ⟨w.heap.size, 0, none⟩ = some (.int .i64 q0) := (HL.out.2.1.blk HBX.out (fun h => h)).is rfl
      have HE := hid (end_any HJ.out)
      have HC := hid (count_any HJ.out)
      have HA := hid (live_arm HL.out q0 HQ.out.1.2)
      go_wp2_with fail
      refine HE.out.mono ?_
      rintro e w5 ⟨rfl, rfl⟩
      go_wp2_with fail
      refine HC.out.mono ?_
      rintro e w5 ⟨rfl, rfl⟩
      go_wp2_with fail
      refine HA.out.mono ?_
      rintro e w5 ⟨S5, rfl, hl5, ht5⟩
      have HL5 := hid hl5
      have HJ5 := hid (show IsJ w5 j p 0 300 (en : Nat) (done.length : Nat) from ht5.mod.blk HJ.out HJS.out.1)
      have HJS5 := hid (show ¬ S5 j from fun hs => HJS.out.1 (ht5.old j HJ.out.lt hs))
      have HROW5 := hid (HROW.out.kept ht5.mod (fun g hg => (HFAR.out g hg).1))
      have HFAR5 := hid (show ∀ g, u11.ownBlock = some g → ¬ S5 g ∧ g ≠ j from fun g hg => ⟨fun hs => (HFAR.out g hg).1 (ht5.old g (by obtain ⟨vs, h1, _⟩ := HROW.out; exact (h1.lt g hg).2) hs), (HFAR.out g hg).2⟩)
      clear hl5 ht5 HE HC HA hb0 HL HJ HROW HFAR
      have HRD5 := hid ((HM0.out.trans HL5.out.2.1).rd HRD.out (fun _ _ h => h))
      have HAF := hid (append_fate W1 w5 S5 p j st (st.arm' q0) HL5.out HST.out.1 (by unfold DSt.arm'; split <;> rfl) (by unfold DSt.arm'; split; exact HST.out.1.waits; exact HST.out.1.waits) HST.out.2 en done.length (by have := HFL.out.2.2; omega) (by omega) HJ5.out HJS5.out HJS.out.2 a cap b HRD5.out HLEN.out)
      go_wp2_with fail
      refine HAF.out.mono ?_
      rintro e w6 ⟨S6, st2, code, rfl, hl6, hj6, hm6, hS6, hfate⟩
      have HL6 := hid hl6
      have HJ6 := hid hj6
      have HFATE := hid (hfate q1 q2)
      have HJS6 := hid (show ¬ S6 j from fun hs => HJS5.out (hS6 j HJ5.out.lt hs))
      have HROW6 := hid (HROW5.out.kept hm6 (fun g hg hs => by
        rcases hs with hs | hs
        · exact (HFAR5.out g hg).1 hs
        · exact (HFAR5.out g hg).2 hs))
      have HFAR6 := hid (show ∀ g, u11.ownBlock = some g → ¬ S6 g ∧ g ≠ j from fun g hg => ⟨fun hs => (HFAR5.out g hg).1 (hS6 g (by obtain ⟨vs, h1, _⟩ := HROW5.out; exact (h1.lt g hg).2) hs), (HFAR5.out g hg).2⟩)
      clear hl6 hj6 hm6 hS6 hfate HAF HL5 HJ5 HROW5 HFAR5 HRD5
      have hb1 : w6.cell? ⟨w.heap.size, 1, none⟩ = some (.int .i64 q1) := (HL6.out.2.1.blk HBX.out (fun h => h)).is rfl
      have hb2 : w6.cell? ⟨w.heap.size, 2, none⟩ = some (.int .i64 q2) := (HL6.out.2.1.blk HBX.out (fun h => h)).is rfl
      have HCR := hid (live_crash HL6.out q1 q2)
      generalize hst3 : st2.crash q1 q2 = st3 at *
      clear hst3
      go_wp2_with fail
      refine HCR.out.mono ?_
      rintro e w7 ⟨S7, rfl, hl7, ht7⟩
      have HL7 := hid hl7
      have HJ7 := hid (ht7.mod.blk HJ6.out HJS6.out)
      have HROW7 := hid (HROW6.out.kept ht7.mod (fun g hg => (HFAR6.out g hg).1))
      have HFAR7 := hid (show ∀ g, u11.ownBlock = some g → ¬ S7 g ∧ g ≠ j from fun g hg => ⟨fun hs => (HFAR6.out g hg).1 (ht7.old g (by obtain ⟨vs, h1, _⟩ := HROW6.out; exact (h1.lt g hg).2) hs), (HFAR6.out g hg).2⟩)
      have HJS7 := hid (show ¬ S7 j from fun hs => HJS6.out (ht7.old j HJ6.out.lt hs))
      clear hl7 ht7 HCR HL6 HJ6 HROW6 HFAR6 hb1 hb2
      have hop := open_any W1 w7 S7 p st3 HL7.out 0 300 en done.length (by rw [HFATE.out.2.1]; omega) (by have := HFL.out.2.2; omega) HFATE.out.1.calm.down
      rw [HFATE.out.1.area 0 en (by rw [HFATE.out.2.1]; have := HFL.out.2.2; omega), HFATE.out.2.2.1, HFL.out.1, open_frames done (fun l hl => by have := HFL.out.2.1 l hl; omega)] at hop
      have HOP := hid hop
      clear hop
      go_wp2_with fail
      refine HOP.out.mono ?_
      rintro e w8 ⟨hm8, ⟨ls, j2, gv, hls, rfl, _, _, hgot⟩ | ⟨h, _⟩⟩
      case inr => cases h
      obtain rfl : ls = done := by cases hls; rfl
      obtain ⟨ga, gc, rfl⟩ := hgot.shape
      obtain ⟨va, vc, hv⟩ := HROW7.out.shape
      have HV := hid hv
      have HL8 := hid (HL7.out.step hm8)
      have HJ8 := hid (hm8.blk HJ7.out (fun h => h))
      have HROW8 := hid (HROW7.out.step hm8)
      have HSAME := hid (samelists_any w8 ga va gc vc ls.length ls rfl (hgot.rdss (fun l hl => by have := HFL.out.2.1 l hl; omega)) ((show PRow w w8 W1.heap.size (.slice va ls.length vc) ls by rw [← hv]; exact HROW8.out).rdss (HM0.out.trans HL8.out.2.1)) (by omega))
      clear hm8 hls hgot HL7 HJ7 HROW7 HOP
      subst hv
      clear HV
      go_wp2_with fail
      refine HSAME.out.mono ?_
      rintro e w9 ⟨rfl, m9, rfl⟩
      have HLD := hid (HL8.out.step (mod_drewN w8 m9))
      have HJD : Hid (IsJ (w8.drewN m9) j p 0 300 (if code = 0 then ((en + b.length + 16 : Nat) : Int) else (en : Int)) (if code = 0 then ((ls.length + 1 : Nat) : Int) else (ls.length : Int))) := HJ8
      have HROWD := hid (HROW8.out.step (mod_drewN w8 m9))
      clear HSAME HL8 HJ8 HROW8
      generalize w8.drewN m9 = w9 at *
      by_cases hcode : code = 0
      · obtain ⟨hb20, hroom, hfl2⟩ := HFATE.out.2.2.2 hcode
        rw [if_pos hcode, if_pos hcode] at HJD
        have HRM := hid (And.intro hb20 hroom)
        have hfr : (flat st3.last 0).take (en + b.length + 16) = frames (ls ++ [b]) := by rw [hfl2, HFL.out.1, frames_snoc]
        have HFR := hid hfr
        obtain ⟨e2, he2⟩ : ∃ e2, e2 = en + b.length + 16 := ⟨_, rfl⟩
        obtain ⟨c2, hc2⟩ : ∃ c2, c2 = ls.length + 1 := ⟨_, rfl⟩
        rw [← he2] at HFR
        rw [← he2, ← hc2] at HJD
        have HE2 := hid (And.intro he2 hc2)
        clear hb20 hroom hfl2 hfr he2 hc2
        obtain ⟨vs, hvs, hel⟩ := HROWD.out
        have HVS := hid (hvs.alloc (.cells #[.slice a b.length cap] 27))
        have HEL := hid hel
        clear hvs hel
        obtain ⟨i27, hi27, hz27, hs27, hb27⟩ := info_parts o_info27
        have HPB := hid (show Part w (.slice a b.length cap) b from ⟨a, cap, rfl, HRD.out, by have := HRM.out.1; omega⟩)
        go_wp2_with (at_builtin; first | (refine wpList_plain rfl (fun K hK => wp_append_R (.tmp 110) (.tmp 112) 26 rfl 27 i27 (.slice none 0 0) 1 24 v_und26 hi27 hz27 hs27 hb27 rfl (by decide) _ ls.length vs rfl (row_base HVS.out (Nat.zero_le _)) _ 1 1 [.slice a b.length cap] rfl rfl ((Blk.new w9 27 #[.slice a b.length cap]).rdv 0 (fun i hi => by rw [Nat.zero_add])) (by intro u hu; simp at hu; subst hu; rfl) (by unfold maxLen; omega) (by omega) (fun va2 vc2 w10 h2 h3 h4 => hK _ _ ?_))))
        have hT0 : ∀ y, (Value.slice va ls.length vc).ownBlock = some y → W1.heap.size ≤ y ∧ y < w9.heap.size := fun y hy => by
          obtain ⟨vs', h1, _⟩ := HROWD.out
          exact h1.lt y hy
        have hlv := (HLD.out.alloc (.cells #[.slice a b.length cap] 27)).turn (T := fun y => (Value.slice va ls.length vc).ownBlock = some y) (T' := fun y => (Value.slice va ls.length vc).ownBlock = some y) (.same h3.out) (fun y hs hy => (HFAR7.out y hy).1 hs) (fun y hy => (hT0 y hy).1)
        have HLX := hid hlv.1
        have HJX := hid (h3.out.blk (HJD.out.alloc (.cells #[.slice a b.length cap] 27)) (fun hy => (HFAR7.out j hy).2 rfl))
        have HPX := hid (PRow.snoc HVS.out HEL.out HPB.out h2.out h4.out (Nat.le_trans HLD.out.2.1.size (by simp)))
        clear h2 h3 h4 hlv HLD HJD HROWD HVS HEL
        have HE9 := hid (end_any HJX.out)
        have HC9 := hid (count_any HJX.out)
        have hjo : jopen (area st3 0 e2) c2 = some (ls ++ [b]) := by
          rw [HFATE.out.1.area 0 e2 (by rw [HFATE.out.2.1]; have := HRM.out.2; have := HE2.out.1; omega), HFR.out]
          have := open_frames (ls ++ [b]) (fun l hl => by
            rcases List.mem_append.1 hl with hl | hl
            · have := HFL.out.2.1 l hl; omega
            · simp at hl; subst hl; have := HRM.out.1; omega)
          rwa [List.length_append, List.length_singleton, ← HE2.out.2] at this
        have hop2 := open_any W1 w10 S7 p st3 HLX.out 0 300 e2 c2 (by rw [HFATE.out.2.1]; omega) (by have := HRM.out.2; have := HE2.out.1; omega) HFATE.out.1.calm.down
        rw [hjo] at hop2
        have HOP2 := hid hop2
        clear hop2 hjo
        go_wp2_with fail
        refine HE9.out.mono ?_
        rintro e w11 ⟨rfl, rfl⟩
        go_wp2_with fail
        refine HC9.out.mono ?_
        rintro e w11 ⟨rfl, rfl⟩
        go_wp2_with fail
        refine HOP2.out.mono ?_
        rintro e w11 ⟨hm11, ⟨ls2, j3, gv2, hls2, rfl, _, _, hgot2⟩ | ⟨h, _⟩⟩
        case inr => cases h
        obtain rfl : ls2 = ls ++ [b] := by cases hls2; rfl
        obtain ⟨ga2, gc2, rfl⟩ := hgot2.shape
        have hll : (ls ++ [b]).length = ls.length + 1 := by simp
        rw [hll] at hgot2
        rw [hll]
        have HMX := hid (HLX.out.2.1.trans hm11)
        have HSAME2 := hid (samelists_any w11 ga2 va2 gc2 vc2 (ls.length + 1) (ls ++ [b]) hll.symm (hgot2.rdss (fun l hl => by
            rcases List.mem_append.1 hl with hl | hl
            · have := HFL.out.2.1 l hl; omega
            · simp at hl; subst hl; have := HRM.out.1; omega)) ((HPX.out.step hm11).rdss (HM0.out.trans HMX.out)) (by rw [hll]; omega))
        clear hm11 hls2 hgot2 HLX HJX HPX HOP2 hll
        go_wp2_with fail
        refine HSAME2.out.mono ?_
        rintro e w12 ⟨rfl, m12, rfl⟩
        go_wp2_with fail
        go_ret
        exact ⟨rfl, (HM0.out.trans (HMX.out.trans (mod_drewN _ _))).below _ (Nat.le_refl _) (fun _ h => h.elim)⟩
      · rw [if_neg hcode, if_neg hcode] at HJD
        have HE9 := hid (end_any HJD.out)
        have HC9 := hid (count_any HJD.out)
        go_wp2_with fail
        refine HE9.out.mono ?_
        rintro e w10 ⟨rfl, rfl⟩
        go_wp2_with fail
        refine HC9.out.mono ?_
        rintro e w10 ⟨rfl, rfl⟩
        go_wp2_with fail
        go_ret
        exact ⟨rfl, (HM0.out.trans HLD.out.2.1).below _ (Nat.le_refl _) (fun _ h => h.elim)⟩
end Go.Proofs.Ytdhhpnfdnoaihaa

/- awake of layer 5. -/
import Derived.Test.YtdhhpnfdnoaihaaK1
namespace Go.Proofs.Ytdhhpnfdnoaihaa
open Go.RowKit

def ja0 : DSt := DSt.new 2
def ja1 : DSt := (ja0.append 0 0 [97, 98, 99]).1
def z93 : List UInt8 := List.replicate 93 0
def ja2 : DSt := (ja1.append 0 19 z93).1
theorem ja0e : (ja0.append 0 0 [97, 98, 99]).2 = 0 := by decide +kernel
theorem ja1r : (ja1.read 0).2 = 0 ∧ (ja1.read 0).1.length = 64 ∧ (ja1.read 0).1.take 19 = [0, 0, 0, 0, 0, 0, 0, 3, 0, 0, 0, 0, 0x35, 0x24, 0x41, 0xc2, 97, 98, 99] := by decide +kernel
theorem ja1d : ja1.down = false ∧ ja1.waits.length = 0 ∧ ja1.last.length = 2 := by decide +kernel
theorem ja1e : (ja1.append 0 19 z93).2 = 0 := by decide +kernel
def f19 : List UInt8 := [0, 0, 0, 0, 0, 0, 0, 3, 0, 0, 0, 0, 0x35, 0x24, 0x41, 0xc2, 97, 98, 99]
theorem lit19 (w : World) : (convert 27 9 (.slice (some ⟨w.heap.size, 0, none⟩) 19 19)).run Try.prog (w.alloc (.cells #[.int .u8 0, .int .u8 0, .int .u8 0, .int .u8 0, .int .u8 0, .int .u8 0, .int .u8 0, .int .u8 3, .int .u8 0, .int .u8 0, .int .u8 0, .int .u8 0, .int .u8 53, .int .u8 36, .int .u8 65, .int .u8 194, .int .u8 97, .int .u8 98, .int .u8 99] 5)) = .ok (Str f19) (w.alloc (.cells #[.int .u8 0, .int .u8 0, .int .u8 0, .int .u8 0, .int .u8 0, .int .u8 0, .int .u8 0, .int .u8 3, .int .u8 0, .int .u8 0, .int .u8 0, .int .u8 0, .int .u8 53, .int .u8 36, .int .u8 65, .int .u8 194, .int .u8 97, .int .u8 98, .int .u8 99] 5)) :=
  str_rd (rd_lit w _ f19 rfl (0, 0) _ rfl) 19 19 rfl
theorem lit19d (w : World) : (convert 27 9 (.slice (some ⟨w.heap.size, 0, none⟩) 19 19)).run Try.prog (w.alloc (.cells #[.int .u8 0, .int .u8 0, .int .u8 0, .int .u8 0, .int .u8 0, .int .u8 0, .int .u8 0, .int .u8 3, .int .u8 0, .int .u8 0, .int .u8 0, .int .u8 0, .int .u8 53, .int .u8 36, .int .u8 65, .int .u8 194, .int .u8 97, .int .u8 98, .int .u8 99] 5)).drew = .ok (Str f19) (w.alloc (.cells #[.int .u8 0, .int .u8 0, .int .u8 0, .int .u8 0, .int .u8 0, .int .u8 0, .int .u8 0, .int .u8 3, .int .u8 0, .int .u8 0, .int .u8 0, .int .u8 0, .int .u8 53, .int .u8 36, .int .u8 65, .int .u8 194, .int .u8 97, .int .u8 98, .int .u8 99] 5)).drew := lit19 w.drew
theorem zeros_at (w : World) (n : Nat) (hn : n ≤ 140737488355328) : ∃ w', (Instr.makeSlice 27 (.int .i64 (n : Int)) (.int .i64 (n : Int))).run Try.prog w = .ok (.slice (some ⟨w.heap.size, 0, none⟩) n n) w' ∧ Rd w' (some ⟨w.heap.size, 0, none⟩) (List.replicate n 0) ∧ Mod None w w' := by
  obtain ⟨i, hi, hz, hsz, hby⟩ := info_parts d_info5
  obtain ⟨w', h1, h2, h3⟩ := run_make_full (P := Try.prog) w 0 27 5 i (.int .u8 0) 1 und27 hi hz hsz .i64 .i64 n (by rw [hby]; omega) (by unfold maxLen; omega) (Nat.zero_le _)
  rw [made_bytes] at h2
  exact ⟨w', h1, (made_blk h2).rdv 0 (fun i _ => by rw [Nat.zero_add]), grown_mod h3 (fun _ h => by cases h)⟩
/-- an Append that goes through -/
theorem append_ok {w0 w : World} {S : Nat → Prop} {p j : Nat} {st : DSt} (h : Live w0 w S p st) {fr to en ct : Nat} (hj : IsJ w j p fr to en ct) (hjS : ¬ S j) (hj0 : w0.heap.size ≤ j) (a : Option Addr) (c n : Nat) (b : List UInt8) (hn : n = b.length) (hr : Rd w a b) 
    (hf : fr ≤ to ∧ to ≤ st.last.length) (hl : b.length ≤ 1048576) (hroom : en + b.length + 16 ≤ (to - fr) * 64) (hen : en ≤ 4194304) (hctb : ct ≤ 100000000) (hdn : st.down = false) (hws : st.waits.length ≤ 2990000000000) (hok : (st.append fr en b).2 = 0) :
    Calls Try.prog 47 #[.pointer (some ⟨j, 0, none⟩), .slice a n c] w fun e w' => ∃ S', e = .returned (.int .i64 0) ∧ Live w0 w' S' p (st.append fr en b).1 ∧ IsJ w' j p fr to ((en + b.length + 16 : Nat) : Int) ((ct + 1 : Nat) : Int) ∧ Mod (fun x => S x ∨ x = j) w w' ∧ (∀ x, x < w.heap.size → S' x → S x) := by
  subst hn
  refine (append_go w0 w S p j st h fr to en ct hj hjS hj0 a c b hr hf hl hroom hen hctb hdn hws).mono ?_
  rintro e w' ⟨S', rfl, h1, h2, h3, h4⟩
  rw [hok] at *
  rw [if_pos rfl, if_pos rfl] at h2
  exact ⟨S', rfl, h1, h2, h3, h4⟩
set_option maxRecDepth 100000 in
set_option maxHeartbeats 1600000 in
theorem awake5_any (w : World) : Calls Try.prog 45 #[] w fun e w' => e = .returned (.bool true) ∧ Mod None w w' := by
  have kc := bytes_const
  go_enter Try.func45, Try.ntmps45
  go_wp2_with fail
  refine (live_new w w (Mod.refl _ _) 2 2 (by omega)).mono ?_
  rintro e w1 ⟨p, S, rfl, hl, _, _⟩
  have HL : Hid (Live w w1 S p ja0) := hid hl
  clear hl
  go_wp2_with fail
  refine (open0_any w w1 S p ja0 HL.out 2 (by decide) rfl).mono ?_
  rintro e w2 ⟨j, rfl, hj, hjn, hm, hl⟩
  have HJ := hid hj
  have HJ0 := hid hjn
  have HL2 := hid hl
  have HJS := hid (show ¬ S j from fun hs => by have := HL.out.lt j hs; omega)
  have HJW := hid (show w.heap.size ≤ j from Nat.le_trans HL.out.2.1.size hjn)
  clear hj hjn hm hl HL
  go_wp2_with fail
  have HWt := hid (show ja0.waits.length ≤ 2990000000000 ∧ ja1.waits.length ≤ 2990000000000 by decide +kernel)
  refine (append_ok (HL2.out.alloc _) (fr := 0) (to := 2) (en := 0) (ct := 0) (Blk.alloc HJ.out _) HJS.out HJW.out _ _ 3 [97, 98, 99] rfl (rd_lit _ _ _ rfl _ _ rfl) (by decide) (by decide) (by decide) (by decide) (by decide) rfl HWt.out.1 ja0e).mono ?_
  rintro e w3 ⟨S3, rfl, hl, hj, hm, hS⟩
  have HL3 : Hid (Live w w3 S3 p ja1) := hid hl
  have HJ3 : Hid (IsJ w3 j p 0 2 19 1) := hid hj
  have HJS3 := hid (show ¬ S3 j from fun hs => HJS.out (hS j (Nat.lt_trans HJ.out.lt (by simp)) hs))
  clear hl hj hm hS HL2 HJ
  go_wp2_with fail
  refine (end_any HJ3.out).mono ?_
  rintro e w4 ⟨rfl, rfl⟩
  go_wp2_with fail
  refine (count_any HJ3.out).mono ?_
  rintro e w4 ⟨rfl, rfl⟩
  go_wp2_with fail
  refine (live_read HL3.out 0).mono ?_
  rintro e w5 ⟨a5, rfl, ht, _, hl, hm⟩
  rw [ja1r.1, ja1r.2.1]
  have hs5 := str_rd (ht.rd.take 19) 19 64 (by rw [ja1r.2.2]; rfl)
  rw [ja1r.2.2] at hs5
  have HL5 : Hid (Live w w5 S3 p ja1) := hid hl
  have HJ5 : Hid (IsJ w5 j p 0 2 19 1) := hid (hm.blk HJ3.out (fun h => h))
  have HK5 := hid (fun w' (hm : Mod None w5 w') => str_rd (hm.rd (ht.rd.take 19) (fun _ _ h => h)) 19 64 (by rw [ja1r.2.2]; rfl))
  rw [ja1r.2.2] at HK5
  have HCV := hid lit19d
  clear hl hm ht HL3 HJ3
  unfold Str at hs5 HK5 HCV
  rw [show (⟨[0, 0, 0, 0, 0, 0, 0, 3, 0, 0, 0, 0, 0x35, 0x24, 0x41, 0xc2, 97, 98, 99].toArray⟩ : ByteArray) = ⟨f19.toArray⟩ from rfl] at HK5
  clear hs5
  generalize (⟨f19.toArray⟩ : ByteArray) = ss at *
  go_wp2_with fail
  refine wp_region_held_drew (S := fun w' => (convert 27 9 (.slice a5 19 64)).run Try.prog w' = .ok (.string ss) w') (by kernel_rfl) ?_ (fun hHeld => ?_)
  · first | exact HK5.out _ ((Mod.refl None w5).drew) | exact HK5.out _ (((Mod.refl None w5).drew).alloc _)
  refine wpAnyH_take (i := 0) (oi := { dst := some 48, op := Op.move (Operand.tmp 5), type := 27, pos := "law.go:27", after := #[], guard := none }) (v := ?vo1_0) rfl (by kernel_rfl) (by kernel_rfl) (by kernel_rfl) (fun _ _ _ h => h) (Or.inl ⟨by rfl, ?yo1_0⟩) (by assumption) ?ro1_0
  case yo1_0 => (intro w hSw; (try dsimp only at hSw); go_simp; (try with_reducible rfl))
  try simp only [Act.put, List.setIfInBounds_toArray, List.set_cons_zero, List.set_cons_succ]
  refine wpAnyH_take (i := 1) (oi := { dst := some 49, op := Op.slice 27 (Operand.tmp 48) none (some (Operand.const (Value.int IntKind.i64 19))) none, type := 27, pos := "law.go:27", after := #[{ on := 0, ground := Ground.data }], guard := none }) (v := ?vo2_1) rfl (by kernel_rfl) (by kernel_rfl) (by kernel_rfl) (fun _ _ _ h => h) (Or.inl ⟨by rfl, ?yo2_1⟩) (by assumption) ?ro2_1
  case yo2_1 => (intro w hSw; (try dsimp only at hSw); go_simp; (try with_reducible rfl))
  try simp only [Act.put, List.setIfInBounds_toArray, List.set_cons_zero, List.set_cons_succ]
  refine wpAnyH_take (i := 2) (oi := { dst := some 50, op := Op.convert 27 9 (Operand.tmp 49), type := 9, pos := "law.go:27", after := #[{ on := 1, ground := Ground.data }], guard := none }) (v := ?vo3_2) rfl (by kernel_rfl) (by kernel_rfl) (by kernel_rfl) (fun _ _ _ h => h) (Or.inl ⟨by rfl, ?yo3_2⟩) (by assumption) ?ro3_2
  case yo3_2 => (intro w hSw; (try dsimp only at hSw); go_simp; (try with_reducible rfl))
  try simp only [Act.put, List.setIfInBounds_toArray, List.set_cons_zero, List.set_cons_succ]
  refine wpAnyH_ready (rs := [3]) (by kernel_rfl) (by simp) ?_
  refine AllReadyH.cons (o := { dst := some 51, op := Op.buildSlice 27 19 #[(0, Operand.const (Value.int IntKind.u8 0)), (1, Operand.const (Value.int IntKind.u8 0)), (2, Operand.const (Value.int IntKind.u8 0)), (3, Operand.const (Value.int IntKind.u8 0)), (4, Operand.const (Value.int IntKind.u8 0)), (5, Operand.const (Value.int IntKind.u8 0)), (6, Operand.const (Value.int IntKind.u8 0)), (7, Operand.const (Value.int IntKind.u8 3)), (8, Operand.const (Value.int IntKind.u8 0)), (9, Operand.const (Value.int IntKind.u8 0)), (10, Operand.const (Value.int IntKind.u8 0)), (11, Operand.const (Value.int IntKind.u8 0)), (12, Operand.const (Value.int IntKind.u8 53)), (13, Operand.const (Value.int IntKind.u8 36)), (14, Operand.const (Value.int IntKind.u8 65)), (15, Operand.const (Value.int IntKind.u8 194)), (16, Operand.const (Value.int IntKind.u8 97)), (17, Operand.const (Value.int IntKind.u8 98)), (18, Operand.const (Value.int IntKind.u8 99))], type := 27, pos := "law.go:27", after := #[], guard := none }) rfl (fun K hK => ?_) AllReadyH.nil
  go_simp
  refine hK.out _ _ ?_ (fun hHeld => ?_)
  · first | exact HK5.out _ ((Mod.refl None w5).drew) | exact HK5.out _ (((Mod.refl None w5).drew).alloc _)
  clear hK K
  try simp only [Act.put, List.setIfInBounds_toArray, List.set_cons_zero, List.set_cons_succ]
  refine wpAnyH_ready (rs := [4]) (by kernel_rfl) (by simp) ?_
  refine AllReadyH.cons (o := { dst := some 52, op := Op.convert 27 9 (Operand.tmp 51), type := 9, pos := "law.go:27", after := #[{ on := 3, ground := Ground.data }], guard := none }) rfl (fun K hK => ?_) AllReadyH.nil
  have hcv := HCV.out w5; go_simp
  refine hK.out _ _ ?_ (fun hHeld => ?_)
  · first | exact HK5.out _ ((Mod.refl None w5).drew) | exact HK5.out _ (((Mod.refl None w5).drew).alloc _)
  clear hK K
  try simp only [Act.put, List.setIfInBounds_toArray, List.set_cons_zero, List.set_cons_succ]
  refine wpAnyH_take (i := 5) (oi := { dst := some 53, op := Op.binOp BinOp.eql 9 (Operand.tmp 50) (Operand.tmp 52) 9, type := 4, pos := "law.go:27", after := #[{ on := 2, ground := Ground.data }, { on := 4, ground := Ground.data }], guard := none }) (v := ?vo4_5) rfl (by kernel_rfl) (by kernel_rfl) (by kernel_rfl) (fun _ _ _ h => h) (Or.inl ⟨by rfl, ?yo4_5⟩) (by assumption) ?ro4_5
  case yo4_5 => (intro w hSw; (try dsimp only at hSw); go_simp; (try with_reducible rfl))
  try simp only [Act.put, List.setIfInBounds_toArray, List.set_cons_zero, List.set_cons_succ]
  refine wpAnyH_take (i := 6) (oi := { dst := some 7, op := Op.assign (Operand.tmp 53), type := 4, pos := "law.go:27", after := #[{ on := 5, ground := Ground.data }, { on := 0, ground := Ground.phase }, { on := 1, ground := Ground.phase }, { on := 2, ground := Ground.phase }, { on := 3, ground := Ground.phase }, { on := 4, ground := Ground.phase }, { on := 5, ground := Ground.phase }], guard := none }) (v := ?vo5_6) rfl (by kernel_rfl) (by kernel_rfl) (by kernel_rfl) (fun _ _ _ h => h) (Or.inl ⟨by rfl, ?yo5_6⟩) (by assumption) ?ro5_6
  case yo5_6 => (intro w hSw; (try dsimp only at hSw); go_simp; (try with_reducible rfl))
  try simp only [Act.put, List.setIfInBounds_toArray, List.set_cons_zero, List.set_cons_succ]
  refine wpAnyH_done (by kernel_rfl) ?_ _
  clear HK5 HCV
  have hm6 : Mod None w5 (w5.alloc (.cells #[.int .u8 0, .int .u8 0, .int .u8 0, .int .u8 0, .int .u8 0, .int .u8 0, .int .u8 0, .int .u8 3, .int .u8 0, .int .u8 0, .int .u8 0, .int .u8 0, .int .u8 53, .int .u8 36, .int .u8 65, .int .u8 194, .int .u8 97, .int .u8 98, .int .u8 99] 5)).drew := ((Mod.refl None w5).alloc _).drew
  have HL6 := hid (HL5.out.step hm6)
  have HJ6 := hid (show IsJ _ j p 0 2 19 1 from hm6.blk HJ5.out (fun h => h))
  clear hm6 HL5 HJ5
  generalize (w5.alloc (.cells #[.int .u8 0, .int .u8 0, .int .u8 0, .int .u8 0, .int .u8 0, .int .u8 0, .int .u8 0, .int .u8 3, .int .u8 0, .int .u8 0, .int .u8 0, .int .u8 0, .int .u8 53, .int .u8 36, .int .u8 65, .int .u8 194, .int .u8 97, .int .u8 98, .int .u8 99] 5)).drew = w6 at *
  obtain ⟨w7, hmk0, hrd7, hm7⟩ := zeros_at w6 94 (by omega)
  have hmk : (Instr.makeSlice 27 (.int .i64 94) (.int .i64 94)).run Try.prog w6 = .ok (.slice (some ⟨w6.heap.size, 0, none⟩) 94 94) w7 := hmk0
  have HL7 := hid (HL6.out.step hm7)
  have HJ7 := hid (show IsJ w7 j p 0 2 19 1 from hm7.blk HJ6.out (fun h => h))
  clear hrd7 hm7 HL6 HJ6 hmk0
  go_wp2_with fail
  refine (append_full w7 j p 0 2 19 1 HJ7.out _ 94 94 (by omega) (by omega) (by omega) (by omega)).mono ?_
  rintro e w8 ⟨rfl, hm8⟩
  have HL8 := hid (HL7.out.step hm8)
  have HJ8 := hid (show IsJ w8 j p 0 2 19 1 from hm8.blk HJ7.out (fun h => h))
  obtain ⟨w9, hmk90, hrd9, hm9⟩ := zeros_at w8 93 (by omega)
  have hmk9 : (Instr.makeSlice 27 (.int .i64 93) (.int .i64 93)).run Try.prog w8 = .ok (.slice (some ⟨w8.heap.size, 0, none⟩) 93 93) w9 := hmk90
  have HL9 := hid (HL8.out.step hm9)
  have HJ9 := hid (show IsJ w9 j p 0 2 (19 : Nat) (1 : Nat) from hm9.blk HJ8.out (fun h => h))
  have HR9 := hid hrd9
  clear hmk hmk90 hrd9 hm8 hm9 HL7 HJ7 HL8 HJ8
  go_wp2_with fail
  refine (append_ok HL9.out (fr := 0) (to := 2) (en := 19) (ct := 1) HJ9.out HJS3.out HJW.out _ 93 93 z93 rfl HR9.out (by rw [ja1d.2.2]; decide) (by decide) (by decide) (by decide) (by decide) ja1d.1 HWt.out.2 ja1e).mono ?_
  rintro e w10 ⟨S10, rfl, hl, hj, _, _⟩
  have HL10 := hid hl
  have HJ10 : Hid (IsJ w10 j p 0 2 128 2) := hid hj
  clear hl hj hmk9
  go_wp2_with fail
  refine (end_any HJ10.out).mono ?_
  rintro e w11 ⟨rfl, rfl⟩
  go_wp2_with fail
  go_ret
  exact ⟨by simp, HL10.out.2.1⟩
end Go.Proofs.Ytdhhpnfdnoaihaa

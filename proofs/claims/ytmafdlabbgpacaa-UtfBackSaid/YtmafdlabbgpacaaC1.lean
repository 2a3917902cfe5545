/- utf.Put. -/
import Derived.StillTailTactics
import Derived.Laws.IdiomStrings
import Derived.Test.YtmafdlabbgpacaaProg
import Derived.Test.YtmafdlabbgpacaaL1
namespace Go.Proofs.Ytmafdlabbgpacaa
open Go.RowKit

theorem und9 : Try.prog.underlying 9 = some .string := by kernel_rfl
theorem und28 : Try.prog.underlying 28 = some (.slice 5) := by kernel_rfl
theorem und5 : Try.prog.underlying 5 = some (.int .u8) := by kernel_rfl
def Str (l : List UInt8) : Value := .string ⟨l.toArray⟩
/-- a byte of a number -/
def by8 (n : Int) : UInt8 := UInt8.ofNat (n % 256).toNat
theorem by8_nat (n : Int) (h0 : 0 ≤ n) (h : n < 256) : ((by8 n).toNat : Int) = n := by
  unfold by8; rw [UInt8.toNat_ofNat']; omega
/-- the bytes of a rune -/
def putL (r : Int) : List UInt8 :=
  if r < 0 ∨ 1114111 < r ∨ (55296 ≤ r ∧ r ≤ 57343) then []
  else if r < 128 then [by8 r]
  else if r < 2048 then [by8 (192 + r / 64), by8 (128 + r % 64)]
  else if r < 65536 then [by8 (224 + r / 4096), by8 (128 + r / 64 % 64), by8 (128 + r % 64)]
  else [by8 (240 + r / 262144), by8 (128 + r / 4096 % 64), by8 (128 + r / 64 % 64), by8 (128 + r % 64)]
set_option maxHeartbeats 400000 in
theorem tail_any (w : World) (q : Nat) (r : Int) (hq : w.cell? ⟨q, 0, none⟩ = some (.int .i32 r)) (k : Nat) (hk : k ≤ 32) (d : Int) (hd : 128 + r / 2 ^ k % 64 = d) :
    Calls Try.prog 24 #[.int .i64 k, .pointer (some ⟨q, 0, none⟩)] w fun e w' => e = .returned (.int .u8 d) ∧ w = w' := by
  have hm : min k 32 = k := by omega
  rw [← hm] at hd
  have HD := hid hd
  clear hd hk hm
  go_enter Try.func24, Try.ntmps24
  go_wp2
  go_ret
  exact ⟨by rw [← HD.out]; rfl, rfl⟩
theorem add_mk' (b o k : Nat) : (⟨b, o, none⟩ : Addr).add k = ⟨b, o + k, none⟩ := by
  unfold Addr.add
  split
  · rename_i h; subst h; rfl
  · rfl
/-- bytes that the text spells out become a string -/
theorem tail_at (w : World) (q : Nat) (r : Int) (hq : w.cell? ⟨q, 0, none⟩ = some (.int .i32 r)) (z : Int) (k : Nat) (hz : z = k) (hk : k ≤ 32) (d : Int) (hd : 128 + r / 2 ^ k % 64 = d) :
    Calls Try.prog 24 #[.int .i64 z, .pointer (some ⟨q, 0, none⟩)] w fun e w' => e = .returned (.int .u8 d) ∧ w = w' := by
  subst hz; exact tail_any w q r hq k hk d hd
theorem str_new (w : World) (l : List UInt8) (n c p : Nat) (hp : p = w.heap.size) (hn : n = l.length) : (convert 28 9 (.slice (some ⟨p, 0, none⟩) n c)).run Try.prog (w.alloc (.cells (l.map B).toArray 5)) = .ok (Str l) (w.alloc (.cells (l.map B).toArray 5)) := by
  subst hp hn
  refine run_convert_bytes_back _ 28 9 5 ⟨w.heap.size, 0, none⟩ c l und28 und5 und9 (fun j hj => ?_)
  have hb := Blk.new w 5 (l.map B).toArray
  rw [add_mk', Nat.zero_add, hb.cell]
  simp [hj, B]
theorem str_newd (w : World) (l : List UInt8) (n c p : Nat) (hp : p = w.heap.size) (hn : n = l.length) : (convert 28 9 (.slice (some ⟨p, 0, none⟩) n c)).run Try.prog (w.alloc (.cells (l.map B).toArray 5)).drew = .ok (Str l) (w.alloc (.cells (l.map B).toArray 5)).drew :=
  str_new w.drew l n c p hp hn
theorem or192' : ∀ n : Fin 32, bits .or .u8 192 (IntKind.u8.wrap ((n.val : Nat) : Int)) = 192 + ((n.val : Nat) : Int) := by decide +kernel
theorem or224' : ∀ n : Fin 16, bits .or .u8 224 (IntKind.u8.wrap ((n.val : Nat) : Int)) = 224 + ((n.val : Nat) : Int) := by decide +kernel
theorem or240' : ∀ n : Fin 8, bits .or .u8 240 (IntKind.u8.wrap ((n.val : Nat) : Int)) = 240 + ((n.val : Nat) : Int) := by decide +kernel
theorem or192 (x : Int) (h0 : 0 ≤ x) (h : x < 32) : bits .or .u8 192 (IntKind.u8.wrap x) = 192 + x := by
  have := or192' ⟨x.toNat, by omega⟩
  simp only [Int.toNat_of_nonneg h0] at this; exact this
theorem or224 (x : Int) (h0 : 0 ≤ x) (h : x < 16) : bits .or .u8 224 (IntKind.u8.wrap x) = 224 + x := by
  have := or224' ⟨x.toNat, by omega⟩
  simp only [Int.toNat_of_nonneg h0] at this; exact this
theorem or240 (x : Int) (h0 : 0 ≤ x) (h : x < 8) : bits .or .u8 240 (IntKind.u8.wrap x) = 240 + x := by
  have := or240' ⟨x.toNat, by omega⟩
  simp only [Int.toNat_of_nonneg h0] at this; exact this
theorem B8 (x : Int) (h0 : 0 ≤ x) (h : x < 256) : B (by8 x) = .int .u8 x := by unfold B; rw [by8_nat x h0 h]
set_option maxRecDepth 100000 in
set_option maxHeartbeats 1600000 in
theorem put_any (w : World) (r : Int) : Calls Try.prog 13 #[.int .i32 r] w fun e w' => e = .returned (Str (putL r)) ∧ Mod None w w' := by
  have hs := fun w l n c p hp hn => str_new w l n c p hp hn
  have HS := hid hs
  have HSD := hid (fun w l n c p hp hn => str_newd w l n c p hp hn)
  clear hs
  have h0 : (w.alloc (.cells #[.int .i32 r] 21)).cell? ⟨w.heap.size, 0, none⟩ = some (.int .i32 r) := (Blk.new w 21 #[.int .i32 r]).is rfl
  have hm0 : Mod None w (w.alloc (.cells #[.int .i32 r] 21)) := (Mod.refl None w).alloc _
  have HM0 := hid hm0
  clear hm0
  by_cases hneg : r < 0
  · have HP := hid (show putL r = [] by unfold putL; rw [if_pos (by omega)])
    go_enter Try.func13, Try.ntmps13
    go_wp2
    go_ret
    exact ⟨by rw [HP.out]; rfl, HM0.out⟩
  by_cases hbig : 1114111 < r
  · have HP := hid (show putL r = [] by unfold putL; rw [if_pos (by omega)])
    go_enter Try.func13, Try.ntmps13
    go_wp2
    go_ret
    exact ⟨by rw [HP.out]; rfl, HM0.out⟩
  by_cases hsur : 55296 ≤ r ∧ r ≤ 57343
  · have HP := hid (show putL r = [] by unfold putL; rw [if_pos (by omega)])
    obtain ⟨hs1, hs2⟩ := hsur
    go_enter Try.func13, Try.ntmps13
    go_wp2
    go_ret
    exact ⟨by rw [HP.out]; rfl, HM0.out⟩
  by_cases h1 : r < 128
  · have hp : putL r = [by8 r] := by unfold putL; rw [if_neg (by omega), if_pos h1]
    have hb : B (by8 r) = .int .u8 r := by unfold B; rw [by8_nat r (by omega) (by omega)]
    have hc := HS.out (w.alloc (.cells #[.int .i32 r] 21)) [by8 r] 1 1 (w.heap.size + 1) (by simp) rfl
    simp only [List.map_cons, List.map_nil, hb] at hc
    have HP := hid hp
    clear hp hb
    go_enter Try.func13, Try.ntmps13
    go_wp2_with fail
    go_ret
    exact ⟨by rw [HP.out]; rfl, HM0.out.alloc _⟩
  have hns : (r < 55296 ∨ 57343 < r) := by omega
  have HNS := hid hns
  have hsur' := hsur
  clear hns
  have h0d : (w.alloc (.cells #[.int .i32 r] 21)).drew.cell? ⟨w.heap.size, 0, none⟩ = some (.int .i32 r) := h0
  have HT := hid (fun z k hz hk d hd => (tail_at (w.alloc (.cells #[.int .i32 r] 21)).drew w.heap.size r h0d z k hz hk d hd).mono (fun e w' (h : _ ∧ _) => (⟨h.1, h.2.symm⟩ : _ ∧ w' = (w.alloc (.cells #[.int .i32 r] 21)).drew)))
  clear h0d
  by_cases h2 : r < 2048
  · have hp : putL r = [by8 (192 + r / 64), by8 (128 + r % 64)] := by unfold putL; rw [if_neg (by omega), if_neg h1, if_pos h2]
    have hc := HSD.out (w.alloc (.cells #[.int .i32 r] 21)) [by8 (192 + r / 64), by8 (128 + r % 64)] 2 2 (w.heap.size + 1) (by simp) rfl
    simp only [List.map_cons, List.map_nil, B8 (192 + r / 64) (by omega) (by omega), B8 (128 + r % 64) (by omega) (by omega)] at hc
    rw [← hp] at hc
    have ho := or192 (r / 64) (by omega) (by omega)
    have hh : ¬ 55296 ≤ r := by omega
    clear hsur hsur'
    clear hp
    generalize putL r = pl at *
    go_enter Try.func13, Try.ntmps13
    go_wp2_with fail
    refine wp_region_still_tail 6 (by kernel_rfl) (by kernel_rfl) ?_
    change wpStill _ _ (World.drew _) (fun a' => wpList _ _ _ _ a' (World.drew _)) _ _
    simp only [List.take_succ_cons, List.take_zero, List.drop_succ_cons, List.drop_zero]
    repeat still_step
    still_call (HT.out 0 0 rfl (by omega) (128 + r % 64) (by simp))
    repeat still_step
    refine wpStill_nil ?_
    go_wp2
    go_ret
    exact ⟨rfl, (HM0.out.drew).alloc _⟩
  by_cases h3 : r < 65536
  · have hp : putL r = [by8 (224 + r / 4096), by8 (128 + r / 64 % 64), by8 (128 + r % 64)] := by unfold putL; rw [if_neg (by omega), if_neg h1, if_neg h2, if_pos h3]
    have hc := HSD.out (w.alloc (.cells #[.int .i32 r] 21)) [by8 (224 + r / 4096), by8 (128 + r / 64 % 64), by8 (128 + r % 64)] 3 3 (w.heap.size + 1) (by simp) rfl
    simp only [List.map_cons, List.map_nil, B8 (224 + r / 4096) (by omega) (by omega), B8 (128 + r / 64 % 64) (by omega) (by omega), B8 (128 + r % 64) (by omega) (by omega)] at hc
    rw [← hp] at hc
    have ho := or224 (r / 4096) (by omega) (by omega)
    clear hp
    generalize putL r = pl at *
    clear hsur hsur'
    rcases HNS.out with hh | hh
    all_goals
      go_enter Try.func13, Try.ntmps13
      go_wp2_with fail
      refine wp_region_still_tail 8 (by kernel_rfl) (by kernel_rfl) ?_
      change wpStill _ _ (World.drew _) (fun a' => wpList _ _ _ _ a' (World.drew _)) _ _
      simp only [List.take_succ_cons, List.take_zero, List.drop_succ_cons, List.drop_zero]
      repeat still_step
      still_call (HT.out 6 6 rfl (by omega) (128 + r / 64 % 64) (by simp))
      repeat still_step
      still_call (HT.out 0 0 rfl (by omega) (128 + r % 64) (by simp))
      repeat still_step
      refine wpStill_nil ?_
      go_wp2
      go_ret
      exact ⟨rfl, (HM0.out.drew).alloc _⟩
  · have hp : putL r = [by8 (240 + r / 262144), by8 (128 + r / 4096 % 64), by8 (128 + r / 64 % 64), by8 (128 + r % 64)] := by unfold putL; rw [if_neg (by omega), if_neg h1, if_neg h2, if_neg h3]
    have hc := HSD.out (w.alloc (.cells #[.int .i32 r] 21)) [by8 (240 + r / 262144), by8 (128 + r / 4096 % 64), by8 (128 + r / 64 % 64), by8 (128 + r % 64)] 4 4 (w.heap.size + 1) (by simp) rfl
    simp only [List.map_cons, List.map_nil, B8 (240 + r / 262144) (by omega) (by omega), B8 (128 + r / 4096 % 64) (by omega) (by omega), B8 (128 + r / 64 % 64) (by omega) (by omega), B8 (128 + r % 64) (by omega) (by omega)] at hc
    rw [← hp] at hc
    have ho := or240 (r / 262144) (by omega) (by omega)
    have hh : ¬ r ≤ 57343 := by omega
    clear hsur hsur'
    clear hp
    generalize putL r = pl at *
    go_enter Try.func13, Try.ntmps13
    go_wp2_with fail
    refine wp_region_still_tail 10 (by kernel_rfl) (by kernel_rfl) ?_
    change wpStill _ _ (World.drew _) (fun a' => wpList _ _ _ _ a' (World.drew _)) _ _
    simp only [List.take_succ_cons, List.take_zero, List.drop_succ_cons, List.drop_zero]
    repeat still_step
    still_call (HT.out 12 12 rfl (by omega) (128 + r / 4096 % 64) (by simp))
    repeat still_step
    still_call (HT.out 6 6 rfl (by omega) (128 + r / 64 % 64) (by simp))
    repeat still_step
    still_call (HT.out 0 0 rfl (by omega) (128 + r % 64) (by simp))
    repeat still_step
    refine wpStill_nil ?_
    go_wp2
    go_ret
    exact ⟨rfl, (HM0.out.drew).alloc _⟩
end Go.Proofs.Ytmafdlabbgpacaa

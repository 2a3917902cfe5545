/- Whole of layer 3's document. -/
import Derived.Test.YtdhhpnfdnoaihaaD9
namespace Go.Proofs.Ytdhhpnfdnoaihaa
open Go.RowKit

theorem d_info5 : (Try.prog.info? 5).map (fun i => (i.zero, i.size, i.bytes)) = some (some (.int .u8 0), 1, 1) := by kernel_rfl
theorem made_bytes (n : Nat) : (madeCells (Value.int .u8 0).cells (n * 1)).toList = (List.replicate n (0 : UInt8)).map B := by
  unfold madeCells
  rw [List.map_replicate]
  apply List.ext_getElem?
  intro i
  rw [Nat.mul_one]
  by_cases hi : i < n
  · rw [List.getElem?_replicate, if_pos hi]
    simp [hi, Value.cells, Nat.mod_one]; rfl
  · rw [List.getElem?_eq_none (by simp; omega), List.getElem?_eq_none (by simp; omega)]
theorem made_blk {w' : World} {b n : Nat} {l : List UInt8} (h : w'.ownsRow 0 5 1 (.slice (some ⟨b, 0, none⟩) n n) n (l.map B)) : Blk w' b 5 (l.map B) := by
  obtain ⟨h0, h1⟩ := h
  rcases h1 with ⟨h1, _⟩ | ⟨g, cap, cur, he, _, hg, h1, h2, h3, h4⟩
  · cases h1
  · obtain ⟨rfl, rfl⟩ : b = g ∧ n = cap := by simpa using he
    unfold Blk
    rw [← h4, List.take_of_length_le (by rw [Array.length_toList, h3]; exact Nat.le_refl _)]; exact hg
theorem splice_pad' (d : List UInt8) (hd : d.length ≤ 64) : splice ((List.replicate 64 (0 : UInt8)).map B) 0 ((d.map B).take (Nat.min d.length 64)) = (pad64 d).map B := by
  have e : Nat.min d.length 64 = d.length := Nat.min_eq_left hd
  rw [e, List.take_of_length_le (by simp)]
  unfold splice pad64
  rw [List.take_zero, List.nil_append, List.map_append, List.length_map, Nat.zero_add, List.map_replicate, List.drop_replicate, List.map_replicate]
/-- new bytes -/
def Fresh (w w' : World) (a : Option Addr) (d : List UInt8) : Prop := ∃ b, a = some ⟨b, 0, none⟩ ∧ w.heap.size ≤ b ∧ Blk w' b 5 (d.map B)
theorem Fresh.rd {w w' : World} {a : Option Addr} {d : List UInt8} (h : Fresh w w' a d) : Rd w' a d := by
  obtain ⟨b, rfl, _, hb⟩ := h
  exact hb.rdv 0 (fun i _ => by rw [Nat.zero_add])
def WholePost (d : List UInt8) (w : World) (e : Ending) (w' : World) : Prop := ∃ a, e = .returned (.slice a 64 64) ∧ Fresh w w' a d ∧ Mod None w w'
set_option maxRecDepth 100000 in
set_option maxHeartbeats 800000 in
theorem whole_any (w : World) (a : Option Addr) (c : Nat) (d : List UInt8) (hr : Rd w a d) (hd : d.length ≤ 64) : Calls Try.prog 34 #[.slice a d.length c] w (WholePost (pad64 d) w) := by
  obtain ⟨i, hi, hz, hsz, hby⟩ := info_parts d_info5
  have HR := hid hr
  clear hr
  go_enter Try.func34, Try.ntmps34
  go_wp2_with (at_make; go_loud (refine wpList_make_full _ rfl (.const (.int .i64 64)) (.const (.int .i64 64)) 27 rfl 0 5 i (.int .u8 0) 1 und27 hi hz hsz .i64 .i64 _ _ 64 rfl rfl rfl rfl (by rw [hby]; omega) (by unfold maxLen; omega) (Nat.zero_le _) ?_); go_loud (intro w1 hown hgr; rw [made_bytes] at hown; have HB := hid (made_blk hown); have HM := hid (grown_mod (S := None) hgr (fun _ h => by cases h)); clear hown hgr); go_loud (have hcp := run_copy_blk (ty := 3) (off := 0) (dLen := 64) (dCap := 64) (c := c) HB.out (HM.out.rd HR.out (fun _ _ h => h)) (n := d.length) (by simp) (B_one d) (by simp only [List.length_map, List.length_replicate]; have : Nat.min d.length 64 = d.length := Nat.min_eq_left hd; omega); rw [splice_pad' d hd] at hcp))
  go_ret
  exact ⟨_, rfl, ⟨_, rfl, Nat.le_refl _, HB.out.put _⟩, HM.out.put (.inr (Nat.le_refl _)) _⟩
end Go.Proofs.Ytdhhpnfdnoaihaa

/- slices.Grow, slices.Concat, slices.Clone of bytes. -/
import Derived.Test.YtdhhpnfdnoaihaaW4
import Derived.Test.YtdhhpnfdnoaihaaE7
namespace Go.Proofs.Ytdhhpnfdnoaihaa
open Go.RowKit

theorem run_append_zeros (w : World) (n : Nat) (h0 : 0 < n) (hn : n ≤ 140737488355328) (ty : TypeId) :
    (Builtin.append_ #[27, 3] ty #[.slice none 0 0, .int .i64 (n : Int)]).run Try.prog w =
      .ok (.slice (some ⟨w.heap.size, 0, none⟩) n (grownCap w n 0 5)) (w.drew.alloc (.cells (Builtin.zeroCells (Value.int .u8 0).cells n ++ Builtin.zeroCells (Value.int .u8 0).cells (grownCap w n 0 5 - n)) 5)) := by
  obtain ⟨i, hi, hz, h1, h2⟩ := info_parts l_info5
  have hw : IntKind.i64.wrap (n : Int) = n := wrap_in n (by omega)
  have hn0 : n ≠ 0 := by omega
  have h63 : ¬ (9223372036854775807 < (n : Int)) := by omega
  have h48 : ¬ (281474976710656 < Builtin.nextslicecap n 0 * i.bytes) := by rw [nextslicecap_zero h0, h2]; omega
  have hneg : ¬ ((n : Int) < 0) := by omega
  have h48i : ¬ (281474976710656 < (n : Int)) := by omega
  have hmx : max (n : Int) 0 = n := by omega
  have h48' : ¬ (281474976710656 < Builtin.nextslicecap n 0) := by rw [nextslicecap_zero h0]; omega
  simp [Builtin.append_, run_underlying l_und27, run_underlying v_und3, sizeOf, typeInfo, zeroValue, hi, hz, h1, h2, Builtin.lenOf, Builtin.firstCells, hn0, hw, hneg, h48i, h63, asInt, asIntOf, Question.forced, newRow, grownCap, hmx, h48']
def RowPost (l : List UInt8) (w : World) (e : Ending) (w' : World) : Prop := ∃ a c, e = .returned (.slice a l.length c) ∧ OwnB w' w.heap.size (.slice a l.length c) l ∧ Mod None w w'
theorem zero_cells (n : Nat) : (Builtin.zeroCells (Value.int .u8 0).cells n).size = n := by simp [size_zeroCells, Value.cells]
theorem grow_own (w : World) (m : Nat) (C : Array Value) (hC : C.size = m) (hm : m ≤ maxLen) : OwnB ((w.drew.alloc (.cells C 5))) w.heap.size (.slice (some ⟨w.heap.size, 0, none⟩) 0 m) [] := by
  refine ⟨rfl, .inr ⟨w.heap.size, m, C, rfl, Nat.le_refl _, ?_, Nat.zero_le _, hm, by rw [hC]; omega, by simp⟩⟩
  exact heap_alloc_new w.drew _
theorem wp_append_z {w : World} {o : Oper} {a : Act} {K : Act → World → Prop} {Q : Exit → Act → World → Prop} (s x : Operand)
    (ho : o.op = .call { callee := .builtin .append, args := #[s, x], argTypes := #[27, 3] }) (n : Nat) (hs : a.eval s = .slice none 0 0) (hx : a.eval x = .int .i64 (n : Int)) (m : Nat) (C : Array Value)
    (hr : (Builtin.append_ #[27, 3] o.type #[.slice none 0 0, .int .i64 (n : Int)]).run Try.prog w = .ok (.slice (some ⟨w.heap.size, 0, none⟩) n m) (w.drew.alloc (.cells C 5)))
    (h : K (a.put o.dst (.slice (some ⟨w.heap.size, 0, none⟩) n m)) (w.drew.alloc (.cells C 5))) : o.wp Try.prog a w K Q := by
  unfold Oper.wp execOp
  simp only [ho, resolve, invoke, builtin, Sem.run_bind, Sem.run_pure, Result.andThen_ok, List.map_toArray, List.map_cons, List.map_nil, hs, hx, hr]
  exact h
set_option maxRecDepth 100000 in
set_option maxHeartbeats 800000 in
theorem grow_any (w : World) (n : Nat) (h0 : 0 < n) (hn : n ≤ 140737488355328) : Calls Try.prog 100 #[.slice none 0 0, .int .i64 (n : Int)] w (RowPost [] w) := by
  have hz := run_append_zeros w n h0 hn 27
  have HZ := hid hz
  have hge := grownCap_ge w n 0 5
  have hle := grownCap_le_maxLen w n 0 5 (by unfold maxLen; omega)
  have HE := hid (grow_own w (grownCap w n 0 5) (Builtin.zeroCells (Value.int .u8 0).cells n ++ Builtin.zeroCells (Value.int .u8 0).cells (grownCap w n 0 5 - n)) (by rw [Array.size_append, zero_cells, zero_cells]; omega) hle)
  generalize Builtin.zeroCells (Value.int .u8 0).cells n ++ Builtin.zeroCells (Value.int .u8 0).cells (grownCap w n 0 5 - n) = C at *
  generalize grownCap w n 0 5 = m at *
  have hn1 : ¬ ((n : Int) < 0) := by omega
  have hn2 : (0 : Int) < (n : Int) := by omega
  unfold maxLen at hle
  clear hz
  go_enter Try.func100, Try.ntmps100
  go_wp2_with (at_builtin; go_loud (refine wpList_plain rfl (fun K hK => wp_append_z (.tmp 20) (.tmp 21) rfl n rfl rfl m C HZ.out (hK _ _ ?_))))
  go_ret
  exact ⟨_, _, rfl, HE.out, ((Mod.refl None w).drew).alloc _⟩
end Go.Proofs.Ytdhhpnfdnoaihaa

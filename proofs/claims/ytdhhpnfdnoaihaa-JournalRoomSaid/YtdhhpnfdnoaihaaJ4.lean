/- A journal in memory: room, End, Count, sectors. -/
import Derived.Test.YtdhhpnfdnoaihaaJ3
namespace Go.Proofs.Ytdhhpnfdnoaihaa
open Go.RowKit

/-- the journal at j -/
def IsJ (w : World) (j p : Nat) (fr to en ct : Int) : Prop := Blk w j 118 [.pointer (some ⟨p, 0, none⟩), .int .i64 fr, .int .i64 to, .int .i64 en, .int .i64 ct]
section
variable {w : World} {j p : Nat} {fr to en ct : Int}
theorem IsJ.cells (h : IsJ w j p fr to en ct) : w.cell? ⟨j, 0, none⟩ = some (.pointer (some ⟨p, 0, none⟩)) ∧ w.cell? ⟨j, 1, none⟩ = some (.int .i64 fr) ∧ w.cell? ⟨j, 2, none⟩ = some (.int .i64 to) ∧ w.cell? ⟨j, 3, none⟩ = some (.int .i64 en) ∧ w.cell? ⟨j, 4, none⟩ = some (.int .i64 ct) :=
  ⟨Blk.is h rfl, Blk.is h rfl, Blk.is h rfl, Blk.is h rfl, Blk.is h rfl⟩
theorem end_any (h : IsJ w j p fr to en ct) : Calls Try.prog 46 #[.pointer (some ⟨j, 0, none⟩)] w fun e w' => e = .returned (.int .i64 en) ∧ w = w' := by
  obtain ⟨_, _, _, h3, _⟩ := h.cells
  clear h
  go_enter Try.func46, Try.ntmps46
  go_wp2
  go_ret
  exact ⟨rfl, rfl⟩
theorem count_any (h : IsJ w j p fr to en ct) : Calls Try.prog 48 #[.pointer (some ⟨j, 0, none⟩)] w fun e w' => e = .returned (.int .i64 ct) ∧ w = w' := by
  obtain ⟨_, _, _, _, h4⟩ := h.cells
  clear h
  go_enter Try.func48, Try.ntmps48
  go_wp2
  go_ret
  exact ⟨rfl, rfl⟩
set_option maxRecDepth 100000 in
theorem room_any (h : IsJ w j p fr to en ct) (hf : 0 ≤ fr ∧ fr ≤ to ∧ to ≤ 65536) : Calls Try.prog 74 #[.pointer (some ⟨j, 0, none⟩)] w fun e w' => e = .returned (.int .i64 ((to - fr) * 64)) ∧ ∃ n, w' = w.drewN n := by
  obtain ⟨_, h1, h2, _, _⟩ := h.cells
  have e1 : IntKind.i64.wrap (to - fr) = to - fr := wrap_in _ (by omega)
  have e2 : IntKind.i64.wrap ((to - fr) * 64) = (to - fr) * 64 := wrap_in _ (by omega)
  clear h
  go_enter Try.func74, Try.ntmps74
  go_wp2
  go_quiet (fail)
  go_wp2
  go_ret
  exact ⟨rfl, _, rfl⟩
end
def SeqOf (w : World) (j : Nat) (a : Option Addr) (n c : Nat) (at' : Int) (e : Ending) (w' : World) : Prop :=
  e = .returned (.func (.func 101) #[] #[.pointer (some ⟨w.heap.size, 0, none⟩), .pointer (some ⟨w.heap.size + 2, 0, none⟩), .pointer (some ⟨w.heap.size + 1, 0, none⟩)]) ∧
    w' = ((w.alloc (.cells #[.pointer (some ⟨j, 0, none⟩)] 62)).alloc (.cells #[.slice a n c] 27)).alloc (.cells #[.int .i64 at'] 2)
theorem sectors_any (w : World) (j : Nat) (a : Option Addr) (n c : Nat) (at' : Int) : Calls Try.prog 83 #[.pointer (some ⟨j, 0, none⟩), .slice a n c, .int .i64 at'] w (SeqOf w j a n c at') := by
  go_enter Try.func83, Try.ntmps83
  go_wp2
  go_ret
  refine ⟨?_, rfl⟩
  simp
end Go.Proofs.Ytdhhpnfdnoaihaa

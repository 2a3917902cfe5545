/- How an argument of numbers reads. -/
import Derived.Test.YtmafdlabbgpacaaV1
namespace Go.Proofs.Ytmafdlabbgpacaa
open Go.RowKit

theorem v_und21 : Try.prog.underlying 21 = some (.int .i32) := by kernel_rfl
theorem v_und27 : Try.prog.underlying 27 = some (.slice 21) := by kernel_rfl
theorem v_cells21 : Try.prog.cellsOf 21 = 1 := by kernel_rfl
theorem v_bytes21 : Try.prog.bytesOf 21 = 4 := by kernel_rfl
@[go_sem] def I32 (r : Int) : Value := .int .i32 r
def EInt (cs : List Value) (r : Int) : Prop := cs = [I32 r]
section
variable {H : Type} {enc : TypeId × Value → H} {w : World}
theorem trod_i32 (n : Nat) (cs : List Value) (d : DataW H) (ps : List MemPlace) (h : Rdg enc w n 21 cs = some (d, ps)) (_ : Small 21 d) : ∃ x, EInt cs x := by
  obtain ⟨z, rfl, _, hw⟩ := DataW.trod_int v_und21 h
  exact ⟨z, rfl⟩
end
theorem rd_of_ints {w : World} {a : Option Addr} {l : List Int} (h : Seen w 1 EInt a l) : RdV w a (l.map I32) := by
  rcases h with rfl | ⟨b, o, rfl, hx⟩
  · exact .inl rfl
  · refine .inr ⟨b, o, rfl, fun i hi => ?_⟩
    have hi' : i < l.length := by simpa using hi
    obtain ⟨cs, _, he, hc⟩ := hx i hi'
    have := hc 0 (by omega)
    rw [Nat.mul_one, Nat.add_zero] at this
    rw [this, he]
    simp [hi']
/-- a slice of numbers -/
def VInts (w : World) (v : Value) (l : List Int) : Prop := ∃ a cap, v = .slice a l.length cap ∧ l.length ≤ 140737488351232 ∧ RdV w a (l.map I32)
theorem view_ints {H : Type} {enc : TypeId × Value → H} {w : World} {n : Nat} {v : Value} {d : DataW H} {ps : List MemPlace} (h : Rdg enc w n 27 v.cells.toList = some (d, ps)) (hz : Small 27 d)
    (hv : ∃ a l c, v = .slice a l c) : ∃ l, VInts w v l := by
  obtain ⟨a, cap, xs, rfl, hl, hs⟩ := view_slice v_und27 v_cells21 (by omega) v_bytes21 EInt trod_i32 h hz hv
  exact ⟨xs, a, cap, rfl, by omega, rd_of_ints hs⟩
end Go.Proofs.Ytmafdlabbgpacaa

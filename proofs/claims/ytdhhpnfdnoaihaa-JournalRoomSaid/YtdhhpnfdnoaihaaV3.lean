/- How an argument of numbers reads. -/
import Derived.Test.YtdhhpnfdnoaihaaV2
namespace Go.Proofs.Ytdhhpnfdnoaihaa
open Go.RowKit

theorem v_und65 : Try.prog.underlying 65 = some (.slice 3) := by kernel_rfl
theorem v_bytes3 : Try.prog.bytesOf 3 = 8 := by kernel_rfl
@[go_sem] def I64 (r : Int) : Value := .int .i64 r
def EInt (cs : List Value) (r : Int) : Prop := cs = [I64 r] ∧ In64 r
/-- a slice of numbers -/
def VInts (w : World) (v : Value) (l : List Int) : Prop := ∃ a cap, v = .slice a l.length cap ∧ l.length ≤ 140737488351232 ∧ Seen w 1 EInt a l
theorem view_ints {H : Type} {enc : TypeId × Value → H} {w : World} {n : Nat} {v : Value} {d : DataW H} {ps : List MemPlace} (h : Rdg enc w n 65 v.cells.toList = some (d, ps)) (hz : Small 65 d)
    (hv : ∃ a l c, v = .slice a l c) : ∃ l, VInts w v l := by
  obtain ⟨a, cap, xs, rfl, hl, hs⟩ := view_slice v_und65 v_cells3 (by omega) v_bytes3 EInt (fun n cs d ps h _ => by
    obtain ⟨z, h, b⟩ := trod_int64 h
    exact ⟨z, h, b⟩) h hz hv
  exact ⟨xs, a, cap, rfl, by omega, hs⟩
theorem VInts.at {w : World} {a : Option Addr} {ls : List Int} (h : Seen w 1 EInt a ls) {w' : World} (hm : Mod None w w') {k : Nat} (hk : k < ls.length) :
    ∃ b o, a = some ⟨b, o, none⟩ ∧ w'.cell? ⟨b, o + k, none⟩ = some (.int .i64 ls[k]) ∧ In64 ls[k] := by
  rcases h with rfl | ⟨b, o, rfl, hx⟩
  · simp at hk
  · obtain ⟨cs, hl, ⟨he, hi⟩, hc⟩ := hx k hk
    have h1 := hc 0 (by omega)
    rw [he, Nat.mul_one] at h1
    have h2 : w.cell? ⟨b, o + k, none⟩ = some (.int .i64 ls[k]) := h1
    refine ⟨b, o, rfl, ?_, hi⟩
    rw [hm.cell (p := ⟨b, o + k, none⟩) (World.block_lt_of_cell? w _ h2) (fun h => h)]; exact h2
end Go.Proofs.Ytdhhpnfdnoaihaa

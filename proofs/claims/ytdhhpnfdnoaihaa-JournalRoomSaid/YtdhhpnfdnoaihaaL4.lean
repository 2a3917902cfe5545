/- A slice literal of one write; copy into a write's sector; append of a write. -/
import Derived.Test.YtdhhpnfdnoaihaaL3
namespace Go.Proofs.Ytdhhpnfdnoaihaa
open Go.RowKit

theorem fold_set (l : List Value) : ∀ (k : Nat) (z : Array Value) (i : Nat), k + l.length ≤ z.size →
    ((l.zipIdx k).foldl (fun cs (x : Value × Nat) => cs.setIfInBounds x.2 x.1) z)[i]? = if k ≤ i ∧ i < k + l.length then l[i - k]? else z[i]? := by
  induction l with
  | nil => intro k z i _; simp; omega
  | cons v l ih =>
    intro k z i h
    rw [List.zipIdx_cons, List.foldl_cons, ih (k + 1) _ i (by simp at h ⊢; omega)]
    simp only [List.length_cons] at h ⊢
    by_cases h1 : k = i
    · subst h1
      rw [if_neg (by omega), if_pos (by omega), Nat.sub_self]
      simp [Array.getElem?_setIfInBounds]; omega
    · by_cases h2 : k + 1 ≤ i ∧ i < k + 1 + l.length
      · rw [if_pos h2, if_pos (by omega), show i - k = (i - (k + 1)) + 1 by omega, List.getElem?_cons_succ]
      · rw [if_neg h2, if_neg (by omega)]
        simp [h1]
theorem fill_one (l : List Value) (z : Array Value) (size : Nat) (hl : l.length = size) (hz : z.size = size) :
    Instr.fill (fun i => some (i * size, size)) z [(0, Agg l)] = some l.toArray := by
  have hc : (Agg l).cells = l.toArray := rfl
  have hsz : l.toArray.size = size := by simp [hl]
  simp only [Instr.fill, hc, hsz, hz, Nat.zero_mul, Nat.zero_add, ne_eq, not_true_eq_false, Nat.lt_irrefl, decide_false, Bool.or_false, Bool.false_eq_true, if_false]
  congr 1
  apply Array.ext_getElem?
  intro i
  have e := fold_set l 0 z i (by omega)
  rw [← Array.foldl_toList, Array.toList_zipIdx]
  simp only [Nat.zero_add] at e ⊢
  rw [e]
  by_cases hi : i < l.length
  · rw [if_pos ⟨by omega, hi⟩]; simp
  · rw [if_neg (by omega), Array.getElem?_eq_none (by omega), Array.getElem?_eq_none (by simp; omega)]
theorem d_und100 : Try.prog.underlying 100 = some (.slice 107) := by kernel_rfl
theorem d_info107 : (Try.prog.info? 107).map (fun i => (i.zero, i.size, i.bytes)) = some (some (Agg (wC 0 zeros64)), 65, 72) := by kernel_rfl
theorem run_lit100 (l : List Value) (hl : l.length = 65) (w : World) :
    (Instr.buildSlice 100 1 #[(0, Agg l)]).run Try.prog w = .ok (.slice (some ⟨w.heap.size, 0, none⟩) 1 1) (w.alloc (.cells l.toArray 107)) := by
  obtain ⟨i, hi, hz, hs, hb⟩ := info_parts d_info107
  have hf := fill_one l ((Array.range 65).map (((Agg (wC 0 zeros64)).cells)[· % (Agg (wC 0 zeros64)).cells.size]!)) 65 hl (by simp)
  simp only [Instr.buildSlice, Sem.run_bind, run_underlying d_und100, Result.andThen_ok, sizeOf, typeInfo, hi, run_program]
  simp [hs, hz, zeroValue, typeInfo, hi]
  rw [hf]
  simp [newRow]
noncomputable def ltRun (v : Value) (w : World) : Result Next := (Sem.run Try.prog (do let x ← Instr.buildSlice 100 1 #[(0, v)]; pure (Next.value x) : Sem Next) w)
@[go_sem ↓] theorem exec_lit100 (ρ : Operand → Value) (dst : Option Tmp) (x : Operand) (ty : TypeId) (pos : String) (after : Array Edge) (g : Option (Nat × Bool)) (w : World) :
    (execOp ρ { dst := dst, op := .buildSlice 100 1 #[(0, x)], type := ty, pos := pos, after := after, guard := g }).run Try.prog w = ltRun (ρ x) w := by
  unfold ltRun
  simp only [execOp, List.map_toArray, List.map_cons, List.map_nil]
@[go_sem] theorem lit100 (i : Int) (d : List UInt8) (hd : d.length = 64) (w : World) : ltRun (Agg (wC i d)) w = .ok (.value (.slice (some ⟨w.heap.size, 0, none⟩) 1 1)) (w.alloc (.cells (wC i d).toArray 107)) := by
  unfold ltRun
  simp only [Sem.run_bind, run_lit100 (wC i d) (by rw [wC_length, hd]) w, Result.andThen_ok]; rfl
end Go.Proofs.Ytdhhpnfdnoaihaa

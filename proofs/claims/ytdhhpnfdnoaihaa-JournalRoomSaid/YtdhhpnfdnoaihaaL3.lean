/- Wide variables: sectors (64 bytes) and writes (a number and a sector), loaded and stored whole. -/
import Derived.Test.YtdhhpnfdnoaihaaL2
namespace Go.Proofs.Ytdhhpnfdnoaihaa
open Go.RowKit

theorem rint {k : IntKind} {a b : Int} (h : a = b) : Ending.returned (Value.int k a) = .returned (.int k b) := by rw [h]
theorem rbool {a b : Bool} (h : a = b) : Ending.returned (Value.bool a) = .returned (.bool b) := by rw [h]
def Agg (l : List Value) : Value := .agg l.toArray
def putRow (w : World) (b : Nat) (l : List Value) : World := w.setRow b l.toArray
def Ones (l : List Value) : Prop := ∀ v ∈ l, v.oneCell' = true
theorem Blk.put {w : World} {b : Nat} {t : TypeId} {cs : List Value} (h : Blk w b t cs) (l : List Value) : Blk (putRow w b l) b t l := h.row l.toArray
theorem Blk.put_other {w : World} {b : Nat} {t : TypeId} {cs : List Value} (h : Blk w b t cs) {g : Nat} (hg : b ≠ g) (l : List Value) : Blk (putRow w g l) b t cs := h.row_other hg _
theorem Mod.put {S : Nat → Prop} {a b : World} (h : Mod S a b) {g : Nat} (hg : S g ∨ a.heap.size ≤ g) (l : List Value) : Mod S a (putRow b g l) := h.row hg _
@[simp] theorem size_putRow (w : World) (g : Nat) (l : List Value) : (putRow w g l).heap.size = w.heap.size := by simp [putRow]
theorem putRow_drew (w : World) (g : Nat) (l : List Value) : putRow w.drew g l = (putRow w g l).drew := rfl
theorem cell_putRow_other (w : World) (g : Nat) (l : List Value) (a : Addr) (h : a.block ≠ g) : (putRow w g l).cell? a = w.cell? a := cell_setRow_other w g _ a h

noncomputable def ldRun (t : TypeId) (v : Value) (w : World) : Result Next := (Sem.run Try.prog (do let x ← Instr.loadAt t v; pure (Next.value x) : Sem Next) w)
noncomputable def stRun (t : TypeId) (v x : Value) (w : World) : Result Next := (Sem.run Try.prog (do Instr.storeAt t v x; pure Next.skip : Sem Next) w)
/-- a type of n cells that is loaded and stored whole -/
def WideT (t : TypeId) (n : Nat) : Prop := (Try.prog.info? t).map (·.size) = some n ∧ ∃ d, Try.prog.underlying t = some d ∧ (match d with | .struct _ | .array _ _ => true | _ => false) = true
theorem ld_blk {w : World} {b off n : Nat} {t ty : TypeId} {cur : List Value} (hw : WideT ty n) (h : Blk w b t cur) (hl : off + n ≤ cur.length) :
    ldRun ty (.pointer (some ⟨b, off, none⟩)) w = .ok (.value (Agg ((cur.drop off).take n))) w := by
  obtain ⟨hi, d, hu, hd⟩ := hw
  have hload : (loadCells ⟨b, off, none⟩ n).run Try.prog w = .ok ((cur.drop off).take n).toArray w := by
    have hlen : ((cur.drop off).take n).length = n := by simp; omega
    have := run_loadCells_list (P := Try.prog) w ⟨b, off, none⟩ ((cur.drop off).take n) (fun j v hv => by
      rw [addr_add, h.cell]
      rw [List.getElem?_take] at hv
      split at hv
      · rw [List.getElem?_drop] at hv; exact hv
      · cases hv)
    rw [hlen] at this; exact this
  cases hq : Try.prog.info? ty with
  | none => simp [hq] at hi
  | some i =>
    have hs : i.size = n := by simpa [hq] using hi
    have hagg : (isAgg ty).run Try.prog w = .ok true w := by
      unfold isAgg
      rw [Sem.run_bind, run_underlying hu w]
      cases d <;> simp_all
    simp [ldRun, Instr.loadAt, Instr.sureAddr, loadVar, Sem.run_bind, hagg, sizeOf, typeInfo, hq, hs, hload, Agg]
theorem st_blk {w : World} {b off n : Nat} {t ty : TypeId} {cur l : List Value} (hw : WideT ty n) (h : Blk w b t cur) (hl : off + n ≤ cur.length) (hn : l.length = n) (h1 : Ones l) :
    stRun ty (.pointer (some ⟨b, off, none⟩)) (Agg l) w = .ok .skip (putRow w b (splice cur off l)) := by
  obtain ⟨hi, _⟩ := hw
  have := run_storeCells_at Try.prog b off t l 0 cur.toArray w h (by simp; omega) h1
  cases hq : Try.prog.info? ty with
  | none => simp [hq] at hi
  | some i =>
    have hs : i.size = l.length := by simp [hq] at hi; omega
    simp [stRun, Instr.storeAt, Instr.sureAddr, storeVar, sizeOf, typeInfo, hq, Agg, Value.cells, hs, this, putRow, splice]

/-! the two kinds -/
def sC (d : List UInt8) : List Value := d.map B
def wC (i : Int) (d : List UInt8) : List Value := .int .i64 i :: d.map B
@[go_sem] theorem sC_length (d : List UInt8) : (sC d).length = d.length := by simp [sC]
@[go_sem] theorem wC_length (i : Int) (d : List UInt8) : (wC i d).length = d.length + 1 := by simp [wC]
theorem sC_ones (d : List UInt8) : Ones (sC d) := B_one d
theorem wC_ones (i : Int) (d : List UInt8) : Ones (wC i d) := by
  intro v hv
  rcases List.mem_cons.1 hv with rfl | hv
  · rfl
  · exact B_one d v hv
def zeros64 : List UInt8 := List.replicate 64 0
theorem wide105 : WideT 105 64 := ⟨by kernel_rfl, _, (by kernel_rfl : Try.prog.underlying 105 = some (.array 64 5)), rfl⟩
theorem und107 : Try.prog.underlying 107 = some (.struct (Try.prog.fieldsOf 107)) := by kernel_rfl
theorem wide107 : WideT 107 65 := ⟨by kernel_rfl, _, und107, rfl⟩
theorem zero107 : (Try.prog.info? 107).bind (·.zero) = some (Agg (wC 0 zeros64)) := by kernel_rfl
theorem zero105 : (Try.prog.info? 105).bind (·.zero) = some (Agg (sC zeros64)) := by kernel_rfl
theorem built107 (i : Int) : Try.prog.built 107 [(0, .int .i64 i)] = some (wC i zeros64).toArray := by kernel_rfl

section
variable (ρ : Operand → Value) (dst : Option Tmp) (x y : Operand) (ty : TypeId) (pos : String) (after : Array Edge) (g : Option (Nat × Bool)) (w : World)
@[go_sem ↓] theorem exec_ld105 : (execOp ρ { dst := dst, op := .load 105 x, type := ty, pos := pos, after := after, guard := g }).run Try.prog w = ldRun 105 (ρ x) w := rfl
@[go_sem ↓] theorem exec_ld107 : (execOp ρ { dst := dst, op := .load 107 x, type := ty, pos := pos, after := after, guard := g }).run Try.prog w = ldRun 107 (ρ x) w := rfl
@[go_sem ↓] theorem exec_st105 : (execOp ρ { dst := dst, op := .store 105 x y, type := ty, pos := pos, after := after, guard := g }).run Try.prog w = stRun 105 (ρ x) (ρ y) w := rfl
@[go_sem ↓] theorem exec_st107 : (execOp ρ { dst := dst, op := .store 107 x y, type := ty, pos := pos, after := after, guard := g }).run Try.prog w = stRun 107 (ρ x) (ρ y) w := rfl
theorem run_alloc_of {t : TypeId} {l : List Value} (h : (Try.prog.info? t).bind (·.zero) = some (Agg l)) :
    (Instr.alloc t true (.tuple #[])).run Try.prog w = .ok (.pointer (some ⟨w.heap.size, 0, none⟩)) (w.alloc (.cells l.toArray t)) := by
  cases hq : Try.prog.info? t with
  | none => simp [hq] at h
  | some i =>
    have hz : i.zero = some (Agg l) := by simpa [hq] using h
    simp [Instr.alloc, zeroValue, typeInfo, hq, hz, newVar, newRow, Agg, Value.cells]
@[go_sem ↓] theorem exec_al105 : (execOp ρ { dst := dst, op := .alloc 105, type := ty, pos := pos, after := after, guard := g }).run Try.prog w = .ok (.value (.pointer (some ⟨w.heap.size, 0, none⟩))) (w.alloc (.cells (sC zeros64).toArray 105)) := by
  simp only [execOp, Sem.run_bind, run_alloc_of w zero105, Result.andThen_ok]; rfl
@[go_sem ↓] theorem exec_al107 : (execOp ρ { dst := dst, op := .alloc 107, type := ty, pos := pos, after := after, guard := g }).run Try.prog w = .ok (.value (.pointer (some ⟨w.heap.size, 0, none⟩))) (w.alloc (.cells (wC 0 zeros64).toArray 107)) := by
  simp only [execOp, Sem.run_bind, run_alloc_of w zero107, Result.andThen_ok]; rfl
end
noncomputable def bdRun (v : Value) (w : World) : Result Next := (Sem.run Try.prog (do let x ← Instr.build 107 #[(0, v)]; pure (Next.value x) : Sem Next) w)
@[go_sem ↓] theorem exec_bd107 (ρ : Operand → Value) (dst : Option Tmp) (x : Operand) (ty : TypeId) (pos : String) (after : Array Edge) (g : Option (Nat × Bool)) (w : World) :
    (execOp ρ { dst := dst, op := .build 107 #[(0, x)], type := ty, pos := pos, after := after, guard := g }).run Try.prog w = bdRun (ρ x) w := by
  unfold bdRun
  simp only [execOp, List.map_toArray, List.map_cons, List.map_nil]
/-- a write is built of its number -/
theorem run_build107 (i : Int) (w : World) : (Instr.build 107 #[(0, .int .i64 i)]).run Try.prog w = .ok (Agg (wC i zeros64)) w := run_build w 107 _ _ (built107 i)
@[go_sem] theorem bd107 (i : Int) (w : World) : bdRun (.int .i64 i) w = .ok (.value (Agg (wC i zeros64))) w := by
  unfold bdRun
  simp only [Sem.run_bind, run_build107, Result.andThen_ok]; rfl
theorem modify_push (a : Array Obj) (x : Obj) (f : Obj → Obj) : (a.push x).modify a.size f = a.push (f x) := by
  apply Array.ext
  · simp
  · intro i h1 h2
    simp only [Array.getElem_modify, Array.getElem_push]
    by_cases h : a.size = i
    · subst h; simp
    · have hi : i < a.size := by simp at h1; omega
      simp [h, hi]
theorem putRow_new (w : World) (c : Array Value) (t : TypeId) (l : List Value) : putRow (w.alloc (.cells c t)) w.heap.size l = w.alloc (.cells l.toArray t) := by
  show ({ w with heap := (w.heap.push (.cells c t)).modify w.heap.size _ } : World) = { w with heap := w.heap.push (.cells l.toArray t) }
  rw [modify_push]
theorem splice_all {α : Type} (L l : List α) (h : L.length = l.length) : splice L 0 l = l := by
  unfold splice
  simp [← h]
/-- stored into the variable that was just made -/
@[go_sem] theorem st107_new (w : World) (n : Nat) (c : Array Value) (i : Int) (d : List UInt8) (hn : n = w.heap.size) (hc : c.size = 65) (hd : d.length = 64) :
    stRun 107 (.pointer (some ⟨n, 0, none⟩)) (Agg (wC i d)) (w.alloc (.cells c 107)) = .ok .skip (w.alloc (.cells (wC i d).toArray 107)) := by
  subst hn
  rw [st_blk (n := 65) wide107 (Blk.new w 107 c) (by simp [hc]) (by rw [wC_length, hd]) (wC_ones i d)]
  rw [splice_all _ _ (by rw [wC_length, hd]; simpa using hc), putRow_new]
@[go_sem] theorem st105_new (w : World) (n : Nat) (c : Array Value) (d : List UInt8) (hn : n = w.heap.size) (hc : c.size = 64) (hd : d.length = 64) :
    stRun 105 (.pointer (some ⟨n, 0, none⟩)) (Agg (sC d)) (w.alloc (.cells c 105)) = .ok .skip (w.alloc (.cells (sC d).toArray 105)) := by
  subst hn
  rw [st_blk (n := 64) wide105 (Blk.new w 105 c) (by simp [hc]) (by rw [sC_length, hd]) (sC_ones d)]
  rw [splice_all _ _ (by rw [sC_length, hd]; simpa using hc), putRow_new]
@[go_sem] theorem wC_size (i : Int) (d : List UInt8) : (wC i d).toArray.size = d.length + 1 := by simp [wC]
@[go_sem] theorem sC_size (d : List UInt8) : (sC d).toArray.size = d.length := by simp [sC]
@[go_sem] theorem zeros64_length : zeros64.length = 64 := by decide
@[go_sem] theorem wC_zero (i : Int) (d : List UInt8) : (wC i d).toArray[0]? = some (.int .i64 i) := rfl
@[go_sem] theorem wC_zero' (i : Int) (d : List UInt8) : (wC i d)[0]? = some (.int .i64 i) := rfl
/-- the sector of a write that lies in a variable of its own -/
@[go_sem] theorem ld105_new (w : World) (n : Nat) (i : Int) (d : List UInt8) (hn : n = w.heap.size) (hd : d.length = 64) :
    ldRun 105 (.pointer (some ⟨n, 1, none⟩)) (w.alloc (.cells (wC i d).toArray 107)) = .ok (.value (Agg (sC d))) (w.alloc (.cells (wC i d).toArray 107)) := by
  subst hn
  rw [ld_blk (n := 64) wide105 (Blk.new w 107 _) (by rw [List.toList_toArray, wC_length]; omega)]
  congr 3
  rw [List.toList_toArray]
  show (List.drop 1 (Value.int .i64 i :: d.map B)).take 64 = sC d
  rw [List.drop_one, List.tail_cons, List.take_of_length_le (by simp [hd])]; rfl
end Go.Proofs.Ytdhhpnfdnoaihaa

import Derived.StillTailTactics
import Derived.Laws.IdiomStrings
import Derived.Lib.BufferRead
import Derived.Lib.SlBytesConst
import Derived.Lib.SliceRun
import Derived.Maps.Views
import Derived.Maps.StringElems
import Derived.Deep.RegionHeld3
import Derived.BigQuiet
import Derived.Deep.QuietTactic
import Derived.Test.YtdhhpnfdnoaihaaY1
/-! L3 -/
/- Wide variables: sectors (64 bytes) and writes (a number and a sector), loaded and stored whole. -/
namespace Go.Proofs.Ytdhhpnfdnoaihaa
open Go.RowKit

theorem rint {k : IntKind} {a b : Int} (h : a = b) : Ending.returned (Value.int k a) = .returned (.int k b) := by rw [h]
theorem rbool {a b : Bool} (h : a = b) : Ending.returned (Value.bool a) = .returned (.bool b) := by rw [h]
def Agg (l : List Value) : Value := .agg l.toArray
def putRow (w : World) (b : Nat) (l : List Value) : World := w.setRow b l.toArray
def Ones (l : List Value) : Prop := ∀ v ∈ l, v.oneCell' = true
theorem Blk.put {w : World} {b : Nat} {t : TypeId} {cs : List Value} (h : Blk w b t cs) (l : List Value) : Blk (putRow w b l) b t l := h.row l.toArray
theorem Blk.put_other {w : World} {b : Nat} {t : TypeId} {cs : List Value} (h : Blk w b t cs) {g : Nat} (hg : b ≠ g) (l : List Value) : Blk (putRow w g l) b t cs := h.row_other hg _
theorem Mod.put {S : Nat → Prop} {a b : World} (h : Mod S a b) {g : Nat} (hg : S g ∨ a.heap.size ≤ g) (l : List Value) : Mod S a (putRow b g l) := h.row hg _
@[simp] theorem size_putRow (w : World) (g : Nat) (l : List Value) : (putRow w g l).heap.size = w.heap.size := by simp [putRow]
theorem putRow_drew (w : World) (g : Nat) (l : List Value) : putRow w.drew g l = (putRow w g l).drew := rfl
theorem cell_putRow_other (w : World) (g : Nat) (l : List Value) (a : Addr) (h : a.block ≠ g) : (putRow w g l).cell? a = w.cell? a := cell_setRow_other w g _ a h

noncomputable def ldRun (t : TypeId) (v : Value) (w : World) : Result Next := (Sem.run Try.prog (do let x ← Instr.loadAt t v; pure (Next.value x) : Sem Next) w)
noncomputable def stRun (t : TypeId) (v x : Value) (w : World) : Result Next := (Sem.run Try.prog (do Instr.storeAt t v x; pure Next.skip : Sem Next) w)
/-- a type of n cells that is loaded and stored whole -/
def WideT (t : TypeId) (n : Nat) : Prop := (Try.prog.info? t).map (·.size) = some n ∧ ∃ d, Try.prog.underlying t = some d ∧ (match d with | .struct _ | .array _ _ => true | _ => false) = true
theorem ld_blk {w : World} {b off n : Nat} {t ty : TypeId} {cur : List Value} (hw : WideT ty n) (h : Blk w b t cur) (hl : off + n ≤ cur.length) :
    ldRun ty (.pointer (some ⟨b, off, none⟩)) w = .ok (.value (Agg ((cur.drop off).take n))) w := by
  obtain ⟨hi, d, hu, hd⟩ := hw
  have hload : (loadCells ⟨b, off, none⟩ n).run Try.prog w = .ok ((cur.drop off).take n).toArray w := by
    have hlen : ((cur.drop off).take n).length = n := by simp; omega
    have := run_loadCells_list (P := Try.prog) w ⟨b, off, none⟩ ((cur.drop off).take n) (fun j v hv => by
      rw [addr_add, h.cell]
      rw [List.getElem?_take] at hv
      split at hv
      · rw [List.getElem?_drop] at hv; exact hv
      · cases hv)
    rw [hlen] at this; exact this
  cases hq : Try.prog.info? ty with
  | none => simp [hq] at hi
  | some i =>
    have hs : i.size = n := by simpa [hq] using hi
    have hagg : (isAgg ty).run Try.prog w = .ok true w := by
      unfold isAgg
      rw [Sem.run_bind, run_underlying hu w]
      cases d <;> simp_all
    simp [ldRun, Instr.loadAt, Instr.sureAddr, loadVar, Sem.run_bind, hagg, sizeOf, typeInfo, hq, hs, hload, Agg]
theorem st_blk {w : World} {b off n : Nat} {t ty : TypeId} {cur l : List Value} (hw : WideT ty n) (h : Blk w b t cur) (hl : off + n ≤ cur.length) (hn : l.length = n) (h1 : Ones l) :
    stRun ty (.pointer (some ⟨b, off, none⟩)) (Agg l) w = .ok .skip (putRow w b (splice cur off l)) := by
  obtain ⟨hi, _⟩ := hw
  have := run_storeCells_at Try.prog b off t l 0 cur.toArray w h (by simp; omega) h1
  cases hq : Try.prog.info? ty with
  | none => simp [hq] at hi
  | some i =>
    have hs : i.size = l.length := by simp [hq] at hi; omega
    simp [stRun, Instr.storeAt, Instr.sureAddr, storeVar, sizeOf, typeInfo, hq, Agg, Value.cells, hs, this, putRow, splice]

/-! the two kinds -/
def sC (d : List UInt8) : List Value := d.map B
def wC (i : Int) (d : List UInt8) : List Value := .int .i64 i :: d.map B
@[go_sem] theorem sC_length (d : List UInt8) : (sC d).length = d.length := by simp [sC]
@[go_sem] theorem wC_length (i : Int) (d : List UInt8) : (wC i d).length = d.length + 1 := by simp [wC]
theorem sC_ones (d : List UInt8) : Ones (sC d) := B_one d
theorem wC_ones (i : Int) (d : List UInt8) : Ones (wC i d) := by
  intro v hv
  rcases List.mem_cons.1 hv with rfl | hv
  · rfl
  · exact B_one d v hv
def zeros64 : List UInt8 := List.replicate 64 0
theorem wide105 : WideT 105 64 := ⟨by kernel_rfl, _, (by kernel_rfl : Try.prog.underlying 105 = some (.array 64 5)), rfl⟩
theorem und107 : Try.prog.underlying 107 = some (.struct (Try.prog.fieldsOf 107)) := by kernel_rfl
theorem wide107 : WideT 107 65 := ⟨by kernel_rfl, _, und107, rfl⟩
theorem zero107 : (Try.prog.info? 107).bind (·.zero) = some (Agg (wC 0 zeros64)) := by kernel_rfl
theorem zero105 : (Try.prog.info? 105).bind (·.zero) = some (Agg (sC zeros64)) := by kernel_rfl
theorem built107 (i : Int) : Try.prog.built 107 [(0, .int .i64 i)] = some (wC i zeros64).toArray := by kernel_rfl

section
variable (ρ : Operand → Value) (dst : Option Tmp) (x y : Operand) (ty : TypeId) (pos : String) (after : Array Edge) (g : Option (Nat × Bool)) (w : World)
@[go_sem ↓] theorem exec_ld105 : (execOp ρ { dst := dst, op := .load 105 x, type := ty, pos := pos, after := after, guard := g }).run Try.prog w = ldRun 105 (ρ x) w := rfl
@[go_sem ↓] theorem exec_ld107 : (execOp ρ { dst := dst, op := .load 107 x, type := ty, pos := pos, after := after, guard := g }).run Try.prog w = ldRun 107 (ρ x) w := rfl
@[go_sem ↓] theorem exec_st105 : (execOp ρ { dst := dst, op := .store 105 x y, type := ty, pos := pos, after := after, guard := g }).run Try.prog w = stRun 105 (ρ x) (ρ y) w := rfl
@[go_sem ↓] theorem exec_st107 : (execOp ρ { dst := dst, op := .store 107 x y, type := ty, pos := pos, after := after, guard := g }).run Try.prog w = stRun 107 (ρ x) (ρ y) w := rfl
theorem run_alloc_of {t : TypeId} {l : List Value} (h : (Try.prog.info? t).bind (·.zero) = some (Agg l)) :
    (Instr.alloc t true (.tuple #[])).run Try.prog w = .ok (.pointer (some ⟨w.heap.size, 0, none⟩)) (w.alloc (.cells l.toArray t)) := by
  cases hq : Try.prog.info? t with
  | none => simp [hq] at h
  | some i =>
    have hz : i.zero = some (Agg l) := by simpa [hq] using h
    simp [Instr.alloc, zeroValue, typeInfo, hq, hz, newVar, newRow, Agg, Value.cells]
@[go_sem ↓] theorem exec_al105 : (execOp ρ { dst := dst, op := .alloc 105, type := ty, pos := pos, after := after, guard := g }).run Try.prog w = .ok (.value (.pointer (some ⟨w.heap.size, 0, none⟩))) (w.alloc (.cells (sC zeros64).toArray 105)) := by
  simp only [execOp, Sem.run_bind, run_alloc_of w zero105, Result.andThen_ok]; rfl
@[go_sem ↓] theorem exec_al107 : (execOp ρ { dst := dst, op := .alloc 107, type := ty, pos := pos, after := after, guard := g }).run Try.prog w = .ok (.value (.pointer (some ⟨w.heap.size, 0, none⟩))) (w.alloc (.cells (wC 0 zeros64).toArray 107)) := by
  simp only [execOp, Sem.run_bind, run_alloc_of w zero107, Result.andThen_ok]; rfl
end
noncomputable def bdRun (v : Value) (w : World) : Result Next := (Sem.run Try.prog (do let x ← Instr.build 107 #[(0, v)]; pure (Next.value x) : Sem Next) w)
@[go_sem ↓] theorem exec_bd107 (ρ : Operand → Value) (dst : Option Tmp) (x : Operand) (ty : TypeId) (pos : String) (after : Array Edge) (g : Option (Nat × Bool)) (w : World) :
    (execOp ρ { dst := dst, op := .build 107 #[(0, x)], type := ty, pos := pos, after := after, guard := g }).run Try.prog w = bdRun (ρ x) w := by
  unfold bdRun
  simp only [execOp, List.map_toArray, List.map_cons, List.map_nil]
/-- a write is built of its number -/
theorem run_build107 (i : Int) (w : World) : (Instr.build 107 #[(0, .int .i64 i)]).run Try.prog w = .ok (Agg (wC i zeros64)) w := run_build w 107 _ _ (built107 i)
@[go_sem] theorem bd107 (i : Int) (w : World) : bdRun (.int .i64 i) w = .ok (.value (Agg (wC i zeros64))) w := by
  unfold bdRun
  simp only [Sem.run_bind, run_build107, Result.andThen_ok]; rfl
theorem modify_push (a : Array Obj) (x : Obj) (f : Obj → Obj) : (a.push x).modify a.size f = a.push (f x) := by
  apply Array.ext
  · simp
  · intro i h1 h2
    simp only [Array.getElem_modify, Array.getElem_push]
    by_cases h : a.size = i
    · subst h; simp
    · have hi : i < a.size := by simp at h1; omega
      simp [h, hi]
theorem putRow_new (w : World) (c : Array Value) (t : TypeId) (l : List Value) : putRow (w.alloc (.cells c t)) w.heap.size l = w.alloc (.cells l.toArray t) := by
  show ({ w with heap := (w.heap.push (.cells c t)).modify w.heap.size _ } : World) = { w with heap := w.heap.push (.cells l.toArray t) }
  rw [modify_push]
theorem splice_all {α : Type} (L l : List α) (h : L.length = l.length) : splice L 0 l = l := by
  unfold splice
  simp [← h]
/-- stored into the variable that was just made -/
@[go_sem] theorem st107_new (w : World) (n : Nat) (c : Array Value) (i : Int) (d : List UInt8) (hn : n = w.heap.size) (hc : c.size = 65) (hd : d.length = 64) :
    stRun 107 (.pointer (some ⟨n, 0, none⟩)) (Agg (wC i d)) (w.alloc (.cells c 107)) = .ok .skip (w.alloc (.cells (wC i d).toArray 107)) := by
  subst hn
  rw [st_blk (n := 65) wide107 (Blk.new w 107 c) (by simp [hc]) (by rw [wC_length, hd]) (wC_ones i d)]
  rw [splice_all _ _ (by rw [wC_length, hd]; simpa using hc), putRow_new]
@[go_sem] theorem st105_new (w : World) (n : Nat) (c : Array Value) (d : List UInt8) (hn : n = w.heap.size) (hc : c.size = 64) (hd : d.length = 64) :
    stRun 105 (.pointer (some ⟨n, 0, none⟩)) (Agg (sC d)) (w.alloc (.cells c 105)) = .ok .skip (w.alloc (.cells (sC d).toArray 105)) := by
  subst hn
  rw [st_blk (n := 64) wide105 (Blk.new w 105 c) (by simp [hc]) (by rw [sC_length, hd]) (sC_ones d)]
  rw [splice_all _ _ (by rw [sC_length, hd]; simpa using hc), putRow_new]
@[go_sem] theorem wC_size (i : Int) (d : List UInt8) : (wC i d).toArray.size = d.length + 1 := by simp [wC]
@[go_sem] theorem sC_size (d : List UInt8) : (sC d).toArray.size = d.length := by simp [sC]
@[go_sem] theorem zeros64_length : zeros64.length = 64 := by decide
@[go_sem] theorem wC_zero (i : Int) (d : List UInt8) : (wC i d).toArray[0]? = some (.int .i64 i) := rfl
@[go_sem] theorem wC_zero' (i : Int) (d : List UInt8) : (wC i d)[0]? = some (.int .i64 i) := rfl
/-- the sector of a write that lies in a variable of its own -/
@[go_sem] theorem ld105_new (w : World) (n : Nat) (i : Int) (d : List UInt8) (hn : n = w.heap.size) (hd : d.length = 64) :
    ldRun 105 (.pointer (some ⟨n, 1, none⟩)) (w.alloc (.cells (wC i d).toArray 107)) = .ok (.value (Agg (sC d))) (w.alloc (.cells (wC i d).toArray 107)) := by
  subst hn
  rw [ld_blk (n := 64) wide105 (Blk.new w 107 _) (by rw [List.toList_toArray, wC_length]; omega)]
  congr 3
  rw [List.toList_toArray]
  show (List.drop 1 (Value.int .i64 i :: d.map B)).take 64 = sC d
  rw [List.drop_one, List.tail_cons, List.take_of_length_le (by simp [hd])]; rfl
end Go.Proofs.Ytdhhpnfdnoaihaa

/-! D1 -/
/- A disk in memory, and the contracts of its small methods. -/
namespace Go.Proofs.Ytdhhpnfdnoaihaa
open Go.RowKit

/-- what a disk is -/
structure DSt where
  last : List (List UInt8)
  waits : List (Nat × List UInt8)
  armed : Int
  down : Bool
structure DSt.Ok (st : DSt) : Prop where
  one : 1 ≤ st.last.length
  most : st.last.length ≤ 65536
  sec : ∀ s ∈ st.last, s.length = 64
  wait : ∀ x ∈ st.waits, x.1 < st.last.length ∧ x.2.length = 64
  arm : -1 ≤ st.armed ∧ st.armed ≤ 9223372036854775807
def lastC (l : List (List UInt8)) : List Value := l.flatMap sC
def waitC (l : List (Nat × List UInt8)) : List Value := l.flatMap fun x => wC x.1 x.2
def OwnR (w : World) (S : Nat → Prop) (e : TypeId) (size : Nat) (v : Value) (n : Nat) (xs : List Value) : Prop := w.ownsRow 0 e size v n xs ∧ ∀ g, v.ownBlock = some g → S g
structure DiskAt (w : World) (S : Nat → Prop) (p : Nat) (st : DSt) (lv wv : Value) : Prop where
  obj : Blk w p 102 [lv, wv, .int .i64 st.armed, .bool st.down]
  own : S p
  last : OwnR w S 105 64 lv st.last.length (lastC st.last)
  waits : OwnR w S 107 65 wv st.waits.length (waitC st.waits)
  lp : lv.ownBlock ≠ some p
  wp : wv.ownBlock ≠ some p
  lw : ∀ g, lv.ownBlock = some g → wv.ownBlock ≠ some g
  ok : st.Ok
  lt : ∀ k, S k → k < w.heap.size
def IsDisk (w : World) (S : Nat → Prop) (p : Nat) (st : DSt) : Prop := ∃ lv wv, DiskAt w S p st lv wv

theorem OwnR.shape {w : World} {S : Nat → Prop} {e size : Nat} {v : Value} {n : Nat} {xs : List Value} (h : OwnR w S e size v n xs) :
    ∃ a c, v = .slice a n c ∧ n ≤ c ∧ c ≤ maxLen := by
  rcases h.1.2 with ⟨rfl, rfl⟩ | ⟨g, cap, cur, rfl, _, _, h1, h2, _⟩
  · exact ⟨none, 0, rfl, by simp, by simp⟩
  · exact ⟨_, cap, rfl, h1, h2⟩
theorem OwnR.open1 {w : World} {S : Nat → Prop} {e size : Nat} {v : Value} {n : Nat} {xs : List Value} (h : OwnR w S e size v n xs) (hn : 0 < n) :
    ∃ g cap rest, v = .slice (some ⟨g, 0, none⟩) n cap ∧ S g ∧ Blk w g e (xs ++ rest) ∧ n ≤ cap ∧ cap ≤ maxLen ∧ (xs ++ rest).length = cap * size ∧ xs.length = n * size := by
  obtain ⟨⟨h0, h1⟩, hS⟩ := h
  rcases h1 with ⟨rfl, rfl⟩ | ⟨g, cap, cur, rfl, _, hg, h1, h2, h3, h4⟩
  · omega
  · refine ⟨g, cap, cur.toList.drop (n * size), rfl, hS g rfl, ?_, h1, h2, ?_, h0⟩
    · unfold Blk; rw [← h4, List.take_append_drop]; exact hg
    · rw [← h4, List.take_append_drop]; simpa using h3
/-- unchanged blocks: what is owned stays owned -/
theorem OwnR.kept {w w' : World} {S S' T : Nat → Prop} {e size : Nat} {v : Value} {n : Nat} {xs : List Value} (h : OwnR w S e size v n xs) (hm : Mod T w w') (hT : ∀ g, v.ownBlock = some g → ¬ T g) (hS : ∀ g, S g → S' g) : OwnR w' S' e size v n xs := by
  obtain ⟨⟨h1, h2⟩, h3⟩ := h
  refine ⟨⟨h1, ?_⟩, fun g hg => hS g (h3 g hg)⟩
  rcases h2 with h2 | ⟨g, cap, cur, rfl, hb, hg, r⟩
  · exact .inl h2
  · refine .inr ⟨g, cap, cur, rfl, hb, ?_, r⟩
    rw [hm.block g (Array.getElem?_eq_some_iff.1 hg).1 (hT g rfl)]; exact hg

theorem DiskAt.cells {w : World} {S : Nat → Prop} {p : Nat} {st : DSt} {lv wv : Value} (h : DiskAt w S p st lv wv) :
    w.cell? ⟨p, 0, none⟩ = some lv ∧ w.cell? ⟨p, 1, none⟩ = some wv ∧ w.cell? ⟨p, 2, none⟩ = some (.int .i64 st.armed) ∧ w.cell? ⟨p, 3, none⟩ = some (.bool st.down) :=
  ⟨h.obj.is rfl, h.obj.is rfl, h.obj.is rfl, h.obj.is rfl⟩
theorem DiskAt.lastv {w : World} {S : Nat → Prop} {p : Nat} {st : DSt} {lv wv : Value} (h : DiskAt w S p st lv wv) :
    ∃ g cap rest, lv = .slice (some ⟨g, 0, none⟩) st.last.length cap ∧ S g ∧ Blk w g 105 (lastC st.last ++ rest) ∧ st.last.length ≤ cap ∧ cap ≤ maxLen ∧ (lastC st.last ++ rest).length = cap * 64 ∧ (lastC st.last).length = st.last.length * 64 :=
  h.last.open1 h.ok.one

def DSt.may (st : DSt) (i : Int) : Int := if st.down then 32 else if i < 0 ∨ (st.last.length : Int) ≤ i then 31 else 0

set_option maxHeartbeats 400000 in
theorem may_any (w : World) (S : Nat → Prop) (p : Nat) (st : DSt) (h : IsDisk w S p st) (i : Int) :
    Calls Try.prog 67 #[.pointer (some ⟨p, 0, none⟩), .int .i64 i] w fun e w' => e = .returned (.int .i64 (st.may i)) ∧ w = w' := by
  obtain ⟨lv, wv, h⟩ := h
  obtain ⟨h0, _, _, h3⟩ := h.cells
  obtain ⟨g, cap, rest, rfl, _⟩ := h.lastv
  have hp : st.may i = if st.down then 32 else if i < 0 ∨ (st.last.length : Int) ≤ i then 31 else 0 := rfl
  have HP := hid hp
  clear h hp
  by_cases hd : st.down = true
  · rw [hd] at h3
    rw [if_pos hd] at HP
    clear hd
    go_enter Try.func67, Try.ntmps67
    go_wp2
    go_ret
    exact ⟨rint HP.out.symm, rfl⟩
  · rw [Bool.not_eq_true] at hd
    rw [hd] at h3
    rw [if_neg (by simp [hd])] at HP
    clear hd
    by_cases hi : i < 0
    · rw [if_pos (.inl hi)] at HP
      go_enter Try.func67, Try.ntmps67
      go_wp2
      go_ret
      exact ⟨rint HP.out.symm, rfl⟩
    · by_cases hi2 : (st.last.length : Int) ≤ i
      · rw [if_pos (.inr hi2)] at HP
        go_enter Try.func67, Try.ntmps67
        go_wp2
        go_ret
        exact ⟨rint HP.out.symm, rfl⟩
      · rw [if_neg (by omega)] at HP
        go_enter Try.func67, Try.ntmps67
        go_wp2
        go_ret
        exact ⟨rint HP.out.symm, rfl⟩

theorem size_any (w : World) (S : Nat → Prop) (p : Nat) (st : DSt) (h : IsDisk w S p st) :
    Calls Try.prog 73 #[.pointer (some ⟨p, 0, none⟩)] w fun e w' => e = .returned (.int .i64 (st.last.length : Int)) ∧ w = w' := by
  obtain ⟨lv, wv, h⟩ := h
  obtain ⟨h0, _, _, h3⟩ := h.cells
  obtain ⟨g, cap, rest, rfl, _⟩ := h.lastv
  clear h
  go_enter Try.func73, Try.ntmps73
  go_wp2
  go_ret
  exact ⟨rfl, rfl⟩
theorem waits_any (w : World) (S : Nat → Prop) (p : Nat) (st : DSt) (h : IsDisk w S p st) :
    Calls Try.prog 36 #[.pointer (some ⟨p, 0, none⟩)] w fun e w' => e = .returned (.int .i64 (st.waits.length : Int)) ∧ w = w' := by
  obtain ⟨lv, wv, h⟩ := h
  obtain ⟨_, h1, _, _⟩ := h.cells
  obtain ⟨a, c, rfl, _, _⟩ := h.waits.shape
  clear h
  go_enter Try.func36, Try.ntmps36
  go_wp2
  go_ret
  exact ⟨rfl, rfl⟩
theorem down_any (w : World) (S : Nat → Prop) (p : Nat) (st : DSt) (h : IsDisk w S p st) :
    Calls Try.prog 31 #[.pointer (some ⟨p, 0, none⟩)] w fun e w' => e = .returned (.bool st.down) ∧ w = w' := by
  obtain ⟨lv, wv, h⟩ := h
  obtain ⟨_, _, _, h3⟩ := h.cells
  clear h
  go_enter Try.func31, Try.ntmps31
  go_wp2
  go_ret
  exact ⟨rfl, rfl⟩
end Go.Proofs.Ytdhhpnfdnoaihaa

/-! D2 -/
/- A disk's changes are counted; it is armed. -/
namespace Go.Proofs.Ytdhhpnfdnoaihaa
open Go.RowKit

theorem DiskAt.obj' {w w' : World} {S : Nat → Prop} {p : Nat} {st : DSt} {lv wv : Value} (h : DiskAt w S p st lv wv) (hm : Mod (fun k => k = p) w w') {a : Int} {d : Bool}
    (hb : Blk w' p 102 [lv, wv, .int .i64 a, .bool d]) (ha : -1 ≤ a ∧ a ≤ 9223372036854775807) : DiskAt w' S p { st with armed := a, down := d } lv wv where
  obj := hb
  own := h.own
  last := h.last.kept hm (fun g hg e => h.lp (by rw [hg, e])) (fun _ h => h)
  waits := h.waits.kept hm (fun g hg e => h.wp (by rw [hg, e])) (fun _ h => h)
  lp := h.lp
  wp := h.wp
  lw := h.lw
  ok := ⟨h.ok.one, h.ok.most, h.ok.sec, h.ok.wait, ha⟩
  lt := fun k hk => Nat.lt_of_lt_of_le (h.lt k hk) hm.size

def DSt.changed (st : DSt) : DSt := if 0 < st.armed then { st with armed := st.armed - 1, down := st.armed - 1 == 0 } else st
def DiskPost (v : Value) (S : Nat → Prop) (p : Nat) (st : DSt) (T : Nat → Prop) (w : World) (e : Ending) (w' : World) : Prop :=
  e = .returned v ∧ IsDisk w' S p st ∧ Mod T w w'

set_option maxHeartbeats 400000 in
theorem changed_any (w : World) (S : Nat → Prop) (p : Nat) (st : DSt) (h : IsDisk w S p st) :
    Calls Try.prog 66 #[.pointer (some ⟨p, 0, none⟩)] w (DiskPost (.tuple #[]) S p st.changed (fun k => k = p) w) := by
  obtain ⟨lv, wv, h⟩ := h
  obtain ⟨_, _, h2, h3⟩ := h.cells
  have f2 := h.obj.free 2
  have f3 := h.obj.free 3
  have H := hid h
  have harm := h.ok.arm
  clear h
  obtain ⟨arm, hd⟩ : ∃ arm, arm = st.armed := ⟨_, rfl⟩
  rw [← hd] at h2 harm
  have HA := hid hd
  clear hd
  by_cases hlt : 0 < arm
  · have hs : st.changed = { st with armed := arm - 1, down := arm - 1 == 0 } := by unfold DSt.changed; rw [← HA.out, if_pos hlt]
    have HS := hid hs
    clear hs
    go_enter Try.func66, Try.ntmps66
    go_wp2
    go_end0
    refine ⟨rfl, ?_, ?_⟩
    · rw [HS.out]
      refine ⟨lv, wv, H.out.obj' ?_ ?_ (by omega)⟩
      · exact Mod.set (S := fun k => k = p) (Mod.set (S := fun k => k = p) (Mod.refl _ _) (.inl rfl) _) (.inl rfl) _
      · exact (H.out.obj.set 2 _).set 3 _
    · exact Mod.set (S := fun k => k = p) (Mod.set (S := fun k => k = p) (Mod.refl _ _) (.inl rfl) _) (.inl rfl) _
  · have hs : st.changed = st := by unfold DSt.changed; rw [← HA.out, if_neg hlt]
    have HS := hid hs
    clear hs
    go_enter Try.func66, Try.ntmps66
    go_wp2
    go_end0
    exact ⟨rfl, by rw [HS.out]; exact ⟨lv, wv, H.out⟩, Mod.refl _ _⟩

def DSt.arm' (st : DSt) (n : Int) : DSt := if st.down then st else { st with armed := max n (-1), down := n == 0 }
set_option maxHeartbeats 400000 in
theorem arm_any (w : World) (S : Nat → Prop) (p : Nat) (st : DSt) (h : IsDisk w S p st) (n : Int) (hn : n ≤ 9223372036854775807) :
    Calls Try.prog 28 #[.pointer (some ⟨p, 0, none⟩), .int .i64 n] w (DiskPost (.tuple #[]) S p (st.arm' n) (fun k => k = p) w) := by
  obtain ⟨lv, wv, h⟩ := h
  obtain ⟨_, _, h2, h3⟩ := h.cells
  have f2 := h.obj.free 2
  have f3 := h.obj.free 3
  have H := hid h
  clear h
  by_cases hd : st.down = true
  · have hs : st.arm' n = st := by unfold DSt.arm'; rw [if_pos hd]
    have HS := hid hs
    clear hs
    rw [hd] at h3
    clear hd hn
    go_enter Try.func28, Try.ntmps28
    go_wp2
    go_end0
    exact ⟨rfl, by rw [HS.out]; exact ⟨lv, wv, H.out⟩, Mod.refl _ _⟩
  · rw [Bool.not_eq_true] at hd
    obtain ⟨m, hm1, hm2, hmx⟩ : ∃ m : Int, (-1 ≤ n → m = n) ∧ (n ≤ -1 → m = -1) ∧ max n (-1) = m := ⟨max n (-1), by omega, by omega, rfl⟩
    have hs : st.arm' n = { st with armed := m, down := n == 0 } := by unfold DSt.arm'; rw [if_neg (by simp [hd]), hmx]
    have HS := hid hs
    have HB := hid (show -1 ≤ m ∧ m ≤ 9223372036854775807 by omega)
    clear hs hmx hn
    rw [hd] at h3
    clear hd
    rcases (show n < -1 ∨ -1 ≤ n by omega) with hle | hle
    rotate_left
    · obtain rfl := hm1 hle
      clear hm1 hm2
      go_enter Try.func28, Try.ntmps28
      go_wp2
      go_end0
      refine ⟨rfl, ?_, ?_⟩
      · rw [HS.out]
        refine ⟨lv, wv, H.out.obj' ?_ ?_ HB.out⟩
        · exact Mod.set (S := fun k => k = p) (Mod.set (S := fun k => k = p) (Mod.refl _ _) (.inl rfl) _) (.inl rfl) _
        · exact (H.out.obj.set 2 _).set 3 _
      · exact Mod.set (S := fun k => k = p) (Mod.set (S := fun k => k = p) (Mod.refl _ _) (.inl rfl) _) (.inl rfl) _
    · obtain rfl := hm2 (by omega)
      clear hm1 hm2
      go_enter Try.func28, Try.ntmps28
      go_wp2
      all_goals
        go_end0
        refine ⟨rfl, ?_, ?_⟩
        · rw [HS.out]
          refine ⟨lv, wv, H.out.obj' ?_ ?_ HB.out⟩
          · exact Mod.set (S := fun k => k = p) (Mod.set (S := fun k => k = p) (Mod.refl _ _) (.inl rfl) _) (.inl rfl) _
          · exact (H.out.obj.set 2 _).set 3 _
        · exact Mod.set (S := fun k => k = p) (Mod.set (S := fun k => k = p) (Mod.refl _ _) (.inl rfl) _) (.inl rfl) _
end Go.Proofs.Ytdhhpnfdnoaihaa

/-! D3 -/
/- disk.New. -/
namespace Go.Proofs.Ytdhhpnfdnoaihaa
open Go.RowKit

def DSt.new (n : Nat) : DSt := { last := List.replicate n zeros64, waits := [], armed := -1, down := false }
theorem lastC_replicate (n : Nat) : lastC (List.replicate n zeros64) = List.replicate (n * 64) (B 0) := by
  induction n with
  | zero => rfl
  | succ n ih =>
    rw [List.replicate_succ, lastC, List.flatMap_cons, show List.flatMap sC (List.replicate n zeros64) = lastC (List.replicate n zeros64) from rfl, ih]
    rw [show sC zeros64 = List.replicate 64 (B 0) from List.map_replicate, List.replicate_append_replicate]
    congr 1; omega
theorem repl_at (m : Nat) (hm : 0 < m) (j : Nat) : ((List.replicate m (B 0)).toArray)[j % m]! = B 0 := by
  have : j % m < m := Nat.mod_lt _ hm
  simp [this]
theorem made_zeros (n : Nat) : (madeCells (Agg (sC zeros64)).cells (n * 64)).toList = lastC (List.replicate n zeros64) := by
  rw [lastC_replicate, show (Agg (sC zeros64)).cells = (List.replicate 64 (B 0)).toArray from rfl]
  unfold madeCells
  apply List.ext_getElem?
  intro i
  by_cases hi : i < n * 64
  · rw [List.getElem?_replicate, if_pos hi]
    simp only [Array.toList_map, Array.toList_range, List.getElem?_map, List.getElem?_range hi, Option.map_some]
    rw [show ((List.replicate 64 (B 0)).toArray).size = 64 from by rw [List.size_toArray, List.length_replicate], repl_at 64 (by omega)]
  · rw [List.getElem?_eq_none (by simp; omega), List.getElem?_eq_none (by simp; omega)]
theorem DSt.new_ok (n : Nat) (h1 : 1 ≤ n) (h2 : n ≤ 65536) : (DSt.new n).Ok where
  one := by simpa [DSt.new] using h1
  most := by simpa [DSt.new] using h2
  sec := by intro s hs; simp [DSt.new] at hs; rw [hs.2]; decide
  wait := by intro x hx; simp [DSt.new] at hx
  arm := by simp [DSt.new]
theorem d_und99 : Try.prog.underlying 99 = some (.slice 105) := by kernel_rfl
theorem d_info105 : (Try.prog.info? 105).map (fun i => (i.zero, i.size, i.bytes)) = some (some (Agg (sC zeros64)), 64, 64) := by kernel_rfl
/-- a new disk: its blocks are all new -/
def NewPost (n : Nat) (w : World) (e : Ending) (w' : World) : Prop :=
  ∃ p S, e = .returned (.pointer (some ⟨p, 0, none⟩)) ∧ IsDisk w' S p (DSt.new n) ∧ Mod None w w' ∧ ∀ k, S k → w.heap.size ≤ k
theorem new_end {w w1 : World} {n : Nat} (h1 : 1 ≤ n) (h2 : n ≤ 65536) (ho : w1.ownsRow 0 105 64 (.slice (some ⟨w.heap.size, 0, none⟩) n n) n (lastC (List.replicate n zeros64))) (hg : w.grownBy w1 none) :
    NewPost n w (.returned (.pointer (some ⟨w1.heap.size, 0, none⟩))) (w1.alloc (.cells #[.slice (some ⟨w.heap.size, 0, none⟩) n n, .slice none 0 0, .int .i64 (-1), .bool false] 102)) := by
  have hlt : w.heap.size < w1.heap.size := (ho.lt _ rfl).2
  have hm : Mod None w w1 := grown_mod hg (fun _ h => by cases h)
  have hm2 : Mod None w1 (w1.alloc (.cells #[.slice (some ⟨w.heap.size, 0, none⟩) n n, .slice none 0 0, .int .i64 (-1), .bool false] 102)) := (Mod.refl _ _).alloc _
  refine ⟨_, fun k => w.heap.size ≤ k ∧ k ≤ w1.heap.size, rfl, ⟨_, _, ⟨Blk.new _ _ _, ⟨by omega, Nat.le_refl _⟩, ?_, ?_, ?_, ?_, ?_, DSt.new_ok n h1 h2, ?_⟩⟩, hm.trans hm2, fun k hk => hk.1⟩
  · have : OwnR w1 (fun k => w.heap.size ≤ k ∧ k ≤ w1.heap.size) 105 64 (.slice (some ⟨w.heap.size, 0, none⟩) n n) n (lastC (List.replicate n zeros64)) := ⟨ho, fun g hg => by simp [Value.ownBlock] at hg; omega⟩
    have := this.kept hm2 (fun _ _ h => h) (fun _ h => h)
    simpa [DSt.new] using this
  · exact ⟨World.ownsRow_nil _ _ _ _, fun g hg => by cases hg⟩
  · intro e; simp [Value.ownBlock] at e; omega
  · intro e; cases e
  · intro g _ e; cases e
  · intro k hk; simp; omega
set_option maxRecDepth 100000 in
set_option maxHeartbeats 400000 in
theorem new_any (w : World) (s : Int) (n : Nat) (hn : (n : Int) = min (max s 1) 65536) :
    Calls Try.prog 26 #[.int .i64 s] w (NewPost n w) := by
  have h1 : 1 ≤ n ∧ n ≤ 65536 := by omega
  obtain ⟨i, hi, hz, hsz, hby⟩ := info_parts d_info105
  have hmm : (if 65536 < if s < 1 then 1 else s then 65536 else if s < 1 then 1 else s) = (n : Int) := by
    by_cases h : s < 1
    · rw [if_pos h, if_neg (by omega)]; omega
    · rw [if_neg h]
      by_cases h' : 65536 < s
      · rw [if_pos h']; omega
      · rw [if_neg h']; omega
  have HN := hid hmm
  clear hmm hn
  go_enter Try.func26, Try.ntmps26
  go_wp2_with (at_make; refine wpList_make_full _ rfl (.tmp 5) (.tmp 5) 99 rfl 0 105 i (Agg (sC zeros64)) 64 d_und99 hi hz hsz .i64 .i64 _ _ n rfl rfl HN.out HN.out (by rw [hby]; omega) (by unfold maxLen; omega) (Nat.zero_le _) ?_; intro w1 hown hgr; rw [made_zeros] at hown; have HO := hid hown; have HG := hid hgr; clear hown hgr)
  all_goals
    go_ret
    exact new_end h1.1 h1.2 HO.out HG.out
end Go.Proofs.Ytdhhpnfdnoaihaa

/-! L4 -/
/- A slice literal of one write; copy into a write's sector; append of a write. -/
namespace Go.Proofs.Ytdhhpnfdnoaihaa
open Go.RowKit

theorem fold_set (l : List Value) : ∀ (k : Nat) (z : Array Value) (i : Nat), k + l.length ≤ z.size →
    ((l.zipIdx k).foldl (fun cs (x : Value × Nat) => cs.setIfInBounds x.2 x.1) z)[i]? = if k ≤ i ∧ i < k + l.length then l[i - k]? else z[i]? := by
  induction l with
  | nil => intro k z i _; simp; omega
  | cons v l ih =>
    intro k z i h
    rw [List.zipIdx_cons, List.foldl_cons, ih (k + 1) _ i (by simp at h ⊢; omega)]
    simp only [List.length_cons] at h ⊢
    by_cases h1 : k = i
    · subst h1
      rw [if_neg (by omega), if_pos (by omega), Nat.sub_self]
      simp [Array.getElem?_setIfInBounds]; omega
    · by_cases h2 : k + 1 ≤ i ∧ i < k + 1 + l.length
      · rw [if_pos h2, if_pos (by omega), show i - k = (i - (k + 1)) + 1 by omega, List.getElem?_cons_succ]
      · rw [if_neg h2, if_neg (by omega)]
        simp [h1]
theorem fill_one (l : List Value) (z : Array Value) (size : Nat) (hl : l.length = size) (hz : z.size = size) :
    Instr.fill (fun i => some (i * size, size)) z [(0, Agg l)] = some l.toArray := by
  have hc : (Agg l).cells = l.toArray := rfl
  have hsz : l.toArray.size = size := by simp [hl]
  simp only [Instr.fill, hc, hsz, hz, Nat.zero_mul, Nat.zero_add, ne_eq, not_true_eq_false, Nat.lt_irrefl, decide_false, Bool.or_false, Bool.false_eq_true, if_false]
  congr 1
  apply Array.ext_getElem?
  intro i
  have e := fold_set l 0 z i (by omega)
  rw [← Array.foldl_toList, Array.toList_zipIdx]
  simp only [Nat.zero_add] at e ⊢
  rw [e]
  by_cases hi : i < l.length
  · rw [if_pos ⟨by omega, hi⟩]; simp
  · rw [if_neg (by omega), Array.getElem?_eq_none (by omega), Array.getElem?_eq_none (by simp; omega)]
theorem d_und100 : Try.prog.underlying 100 = some (.slice 107) := by kernel_rfl
theorem d_info107 : (Try.prog.info? 107).map (fun i => (i.zero, i.size, i.bytes)) = some (some (Agg (wC 0 zeros64)), 65, 72) := by kernel_rfl
theorem run_lit100 (l : List Value) (hl : l.length = 65) (w : World) :
    (Instr.buildSlice 100 1 #[(0, Agg l)]).run Try.prog w = .ok (.slice (some ⟨w.heap.size, 0, none⟩) 1 1) (w.alloc (.cells l.toArray 107)) := by
  obtain ⟨i, hi, hz, hs, hb⟩ := info_parts d_info107
  have hf := fill_one l ((Array.range 65).map (((Agg (wC 0 zeros64)).cells)[· % (Agg (wC 0 zeros64)).cells.size]!)) 65 hl (by simp)
  simp only [Instr.buildSlice, Sem.run_bind, run_underlying d_und100, Result.andThen_ok, sizeOf, typeInfo, hi, run_program]
  simp [hs, hz, zeroValue, typeInfo, hi]
  rw [hf]
  simp [newRow]
noncomputable def ltRun (v : Value) (w : World) : Result Next := (Sem.run Try.prog (do let x ← Instr.buildSlice 100 1 #[(0, v)]; pure (Next.value x) : Sem Next) w)
@[go_sem ↓] theorem exec_lit100 (ρ : Operand → Value) (dst : Option Tmp) (x : Operand) (ty : TypeId) (pos : String) (after : Array Edge) (g : Option (Nat × Bool)) (w : World) :
    (execOp ρ { dst := dst, op := .buildSlice 100 1 #[(0, x)], type := ty, pos := pos, after := after, guard := g }).run Try.prog w = ltRun (ρ x) w := by
  unfold ltRun
  simp only [execOp, List.map_toArray, List.map_cons, List.map_nil]
@[go_sem] theorem lit100 (i : Int) (d : List UInt8) (hd : d.length = 64) (w : World) : ltRun (Agg (wC i d)) w = .ok (.value (.slice (some ⟨w.heap.size, 0, none⟩) 1 1)) (w.alloc (.cells (wC i d).toArray 107)) := by
  unfold ltRun
  simp only [Sem.run_bind, run_lit100 (wC i d) (by rw [wC_length, hd]) w, Result.andThen_ok]; rfl
end Go.Proofs.Ytdhhpnfdnoaihaa

/-! L5 -/
/- append, with the blocks that it may write told. -/
namespace Go.Proofs.Ytdhhpnfdnoaihaa
open Go.RowKit

/-- S, and what is new -/
def Grow (S : Nat → Prop) (w w' : World) (k : Nat) : Prop := S k ∨ (w.heap.size ≤ k ∧ k < w'.heap.size)
theorem growBy_le (newLen : Nat) : ∀ (rounds c : Nat), c < newLen → Builtin.growBy newLen rounds c ≤ newLen + newLen / 4 + 256 ∧ Builtin.growBy newLen rounds c ≤ newLen + newLen / 4 + 256
  | 0, c, h => by unfold Builtin.growBy; omega
  | r + 1, c, h => by
    unfold Builtin.growBy
    rw [if_neg (by omega)]
    by_cases h' : c + (c + 768) / 4 < newLen
    · exact growBy_le newLen r _ h'
    · have : Builtin.growBy newLen r (c + (c + 768) / 4) = c + (c + 768) / 4 := by
        cases r with
        | zero => rfl
        | succ r => unfold Builtin.growBy; rw [if_pos (by omega)]
      rw [this]; omega
theorem nextslicecap_bound {need old : Nat} (h : old < need) : Builtin.nextslicecap need old ≤ need + need / 4 + 256 := by
  unfold Builtin.nextslicecap
  split
  · omega
  · split
    · omega
    · exact (growBy_le need 4 old h).1
section
variable {P : Program} {w : World}
theorem ownsRow_at {g cap n : Nat} {e : TypeId} {size : Nat} {xs : List Value} {cur : Array Value} (hlen : xs.length = n * size) (hg : w.heap[g]? = some (.cells cur e (0, 0))) (hn : n ≤ cap) (hc : cap ≤ maxLen) (hs : cur.size = cap * size) (ht : cur.toList.take (n * size) = xs) :
    w.ownsRow 0 e size (.slice (some ⟨g, 0, none⟩) n cap) n xs := ⟨hlen, .inr ⟨g, cap, cur, rfl, Nat.zero_le _, hg, hn, hc, hs, ht⟩⟩
theorem run_append_R (t ty e : TypeId) (i : TypeInfo) (z : Value) (size bytes : Nat) (ht : P.underlying t = some (.slice e)) (hi : P.info? e = some i) (hz : i.zero = some z)
    (hsize : i.size = size) (hby : i.bytes = bytes) (hzs : z.cells.size = size) (hsz : 0 < size)
    (v : Value) (n : Nat) (xs : List Value) (hown : w.ownsRow 0 e size v n xs)
    (sa : Option Addr) (m c : Nat) (news : List Value) (hl : news.length = m * size) (hr : RdV w sa news) (h1 : Ones news)
    (h63 : n + m ≤ maxLen) (hbytes : ((n + m) + (n + m) / 4 + 256) * bytes ≤ 281474976710656) :
    ∃ v' w', (Builtin.append_ #[t, t] ty #[v, .slice sa m c]).run P w = .ok v' w' ∧ w'.ownsRow 0 e size v' (n + m) (xs ++ news) ∧ Mod (fun k => v.ownBlock = some k) w w' ∧
      ∀ g, v'.ownBlock = some g → v.ownBlock = some g ∨ (w.heap.size ≤ g ∧ g < w'.heap.size) := by
  subst hsize
  subst hby
  cases sa with
  | none =>
    have hn : news = [] := by
      rcases hr with h | ⟨_, _, h, _⟩
      · exact h
      · cases h
    subst hn
    obtain rfl : m = 0 := by
      have : m * i.size = 0 := by simpa using hl.symm
      rcases Nat.mul_eq_zero.1 this with h | h
      · exact h
      · omega
    exact ⟨v, w, run_append_owned_none' 0 t ty e i i.size ht hi v n xs hown c, by simpa using hown, Mod.refl _ _, fun g hg => .inl hg⟩
  | some a =>
    have hnews : ∀ j u, news[j]? = some u → w.cell? (a.add j) = some u := by
      intro j u hj
      rcases hr with h | ⟨b, o, h, hc⟩
      · subst h; simp at hj
      · cases h
        have hlt : j < news.length := by
          rcases Nat.lt_or_ge j news.length with h | h
          · exact h
          · rw [List.getElem?_eq_none h] at hj; cases hj
        rw [addr_add, hc j hlt, hj]
    have hsmall : n + m ≤ 9223372036854775807 := by simp only [maxLen] at h63; omega
    have hlen : (xs ++ news).length = (n + m) * i.size := by rw [List.length_append, hown.1, hl, Nat.add_mul]
    have grown : ∀ (old : Nat),
        (w.drew.alloc (.cells (xs.toArray ++ news.toArray ++ Builtin.zeroCells z.cells (grownCap w (n + m) old e - (n + m))) e)).ownsRow 0 e i.size
          (.slice (some ⟨w.heap.size, 0, none⟩) (n + m) (grownCap w (n + m) old e)) (n + m) (xs ++ news) := by
      intro old
      have hge := grownCap_ge w (n + m) old e
      refine ownsRow_at hlen (heap_alloc_new w.drew _) hge (grownCap_le_maxLen w (n + m) old e h63) ?_ ?_
      · simp only [Array.size_append, List.size_toArray, size_zeroCells, hzs, hown.1, hl, ← Nat.add_mul]
        congr 1
        omega
      · simp only [Array.toList_append, List.append_assoc]
        rw [← List.append_assoc, ← hlen]
        exact List.take_left
    have hmod : ∀ (T : Nat → Prop) (o : Obj), Mod T w (w.drew.alloc o) := fun T o => ((Mod.refl T w).drew).alloc o
    rcases hown.2 with ⟨rfl, rfl⟩ | ⟨g, cap, cur, rfl, _, hg, hnc, hcm, hcs, htake⟩
    · have hx : xs = [] := List.eq_nil_of_length_eq_zero (by simpa using hown.1)
      subst hx
      by_cases hm : m = 0
      · subst hm
        have hn : news = [] := List.eq_nil_of_length_eq_zero (by simpa using hl)
        subst hn
        refine ⟨.slice none 0 0, w, ?_, World.ownsRow_nil w 0 e i.size, Mod.refl _ _, fun g hg => .inl hg⟩
        simp [Builtin.append_, run_underlying ht, sizeOf, typeInfo, hi, Builtin.lenOf, Builtin.firstCells, loadCells, loadCellsFrom]
      · have hb2 : m * i.bytes ≤ 281474976710656 := Nat.le_trans (Nat.mul_le_mul_right _ (by omega)) hbytes
        have hr' := run_append_nil (P := P) w t ty e i z ht hi hz a m c news hl hnews (by omega) (by omega) hb2
        have hgr := grown 0
        simp only [Nat.zero_add, List.nil_append, Array.empty_append] at hgr ⊢
        exact ⟨_, _, hr', hgr, hmod _ _, fun g hg => .inr (by simp [Value.ownBlock] at hg; subst hg; simp)⟩
    · by_cases hroom : n + m ≤ cap
      · have hfit : n * i.size + news.length ≤ cur.size := by rw [hl, hcs, ← Nat.add_mul]; exact Nat.mul_le_mul_right _ hroom
        have hr' := run_append_room (P := P) w t ty e i ht hi g n cap cur hg a m c news hl hnews h1 hroom hfit
        refine ⟨_, _, hr', ownsRow_at hlen (setRow_heap w g cur _ e _ hg) hroom hcm ?_ ?_, (Mod.row (S := fun k => (Value.slice (some ⟨g, 0, none⟩) n cap).ownBlock = some k) (Mod.refl _ _) (.inl rfl) _), fun g' hg' => .inl (by simpa [Value.ownBlock] using hg')⟩
        · simp only [List.size_toArray, List.length_append, List.length_take, List.length_drop, Array.length_toList]
          omega
        · rw [htake, ← hlen]
          exact List.take_left
      · have holds : ∀ j u, xs[j]? = some u → w.cell? ((⟨g, 0, none⟩ : Addr).add j) = some u := hown.cells (g := g) rfl
        have hfit : Builtin.nextslicecap (n + m) cap * i.bytes ≤ 281474976710656 := Nat.le_trans (Nat.mul_le_mul_right _ (nextslicecap_bound (by omega))) hbytes
        have hr' := run_append_grow (P := P) w t ty e i z ht hi hz ⟨g, 0, none⟩ n cap xs hown.1 holds a m c news hl hnews (by omega) (by omega) hfit
        exact ⟨_, _, hr', grown cap, hmod _ _, fun g hg => .inr (by simp [Value.ownBlock] at hg; subst hg; simp)⟩
end
/-- append at whatever place of a walk -/
theorem wp_append_R {P : Program} {w : World} {o : Oper} {a : Act} {K : Act → World → Prop} {Q : Exit → Act → World → Prop} (s x : Operand) (t : TypeId)
    (ho : o.op = .call { callee := .builtin .append, args := #[s, x], argTypes := #[t, t] })
    (e : TypeId) (i : TypeInfo) (z : Value) (size bytes : Nat) (ht : P.underlying t = some (.slice e)) (hi : P.info? e = some i) (hz : i.zero = some z)
    (hsize : i.size = size) (hby : i.bytes = bytes) (hzs : z.cells.size = size) (hsz : 0 < size)
    (v : Value) (n : Nat) (xs : List Value) (hs : a.eval s = v) (hown : w.ownsRow 0 e size v n xs)
    (sa : Option Addr) (m c : Nat) (news : List Value) (hx : a.eval x = .slice sa m c) (hl : news.length = m * size) (hr : RdV w sa news) (h1 : Ones news)
    (h63 : n + m ≤ maxLen) (hbytes : ((n + m) + (n + m) / 4 + 256) * bytes ≤ 281474976710656)
    (h : ∀ va vc w', Hid (w'.ownsRow 0 e size (.slice va (n + m) vc) (n + m) (xs ++ news)) → Hid (Mod (fun k => v.ownBlock = some k) w w') →
      Hid (∀ g, (Value.slice va (n + m) vc).ownBlock = some g → v.ownBlock = some g ∨ (w.heap.size ≤ g ∧ g < w'.heap.size)) → K (a.put o.dst (.slice va (n + m) vc)) w') : o.wp P a w K Q := by
  obtain ⟨v', w', hr, h2, h3, h4⟩ := run_append_R (P := P) t o.type e i z size bytes ht hi hz hsize hby hzs hsz v n xs hown sa m c news hl hr h1 h63 hbytes
  have hsh : ∃ va vc, v' = .slice va (n + m) vc := by
    rcases h2.2 with ⟨rfl, h⟩ | ⟨g, cap, cur, rfl, _⟩
    · exact ⟨none, 0, by rw [h]⟩
    · exact ⟨_, _, rfl⟩
  obtain ⟨va, vc, rfl⟩ := hsh
  unfold Oper.wp execOp
  simp only [ho, resolve, invoke, builtin, Sem.run_bind, Sem.run_pure, Result.andThen_ok, List.map_toArray, List.map_cons, List.map_nil, hs, hx, hr]
  exact h va vc w' h2 h3 h4
theorem step_of {P : Program} {ops : Array Oper} {o : Oper} {a : Act} {w : World} {K : Act → World → Prop} {Q : Exit → Act → World → Prop} {E : Prop} (hgd : o.guard = none) (h : o.wp P a w K Q) :
    if Region.wanted o (yielded ops a.tmps) = true then Oper.wp P o a w K Q else E := by
  rw [if_pos (by simp [Region.wanted, hgd])]; exact h
end Go.Proofs.Ytdhhpnfdnoaihaa

/-! D4 -/
/- Disk.Write. -/
namespace Go.Proofs.Ytdhhpnfdnoaihaa
open Go.RowKit

def pad64 (d : List UInt8) : List UInt8 := d ++ List.replicate (64 - d.length) 0
theorem pad64_length (d : List UInt8) (h : d.length ≤ 64) : (pad64 d).length = 64 := by simp [pad64]; omega
theorem splice_pad (i : Int) (d : List UInt8) : splice (wC i zeros64) 1 (d.map B) = wC i (pad64 d) := by
  unfold splice wC pad64 zeros64
  rw [List.map_append, List.map_replicate, List.map_replicate]
  simp only [List.take_succ_cons, List.take_zero, List.cons_append, List.nil_append, List.length_map]
  congr 2
  rw [show 1 + d.length = d.length + 1 by omega, List.drop_succ_cons, List.drop_replicate]
theorem rdv_alloc {w : World} {a : Option Addr} {vs : List Value} (h : RdV w a vs) (o : Obj) : RdV (w.alloc o) a vs :=
  ((Mod.refl None w).alloc o).rdv h (fun _ _ h => h)
theorem run_copy_w (w0 : World) (ty : TypeId) (i : Int) (sa : Option Addr) (c : Nat) (m : List UInt8) (hr : Rd w0 sa m) (hm : m.length ≤ 64) :
    (Builtin.copy_ #[27, 27] ty #[.slice (some ⟨w0.heap.size, 1, none⟩) 64 64, .slice sa m.length c]).run Try.prog (w0.alloc (.cells (wC i zeros64).toArray 107)) =
      .ok (goInt m.length) (w0.alloc (.cells (wC i (pad64 m)).toArray 107)) := by
  have hsz : (Try.prog.info? 5).map (·.size) = some 1 := by kernel_rfl
  by_cases h0 : m = []
  · subst h0
    have := run_copy_none (P := Try.prog) (w0.alloc (.cells (wC i zeros64).toArray 107)) 27 27 ty 5 (some ⟨w0.heap.size, 1, none⟩) sa 64 64 0 c l_und27 hsz (by simp)
    exact this
  · rcases rdv_alloc hr (.cells (wC i zeros64).toArray 107) with h | ⟨b, o, rfl, hc⟩
    · exact absurd (by simpa using h) h0
    · have hmin : Nat.min m.length 64 = m.length := Nat.min_eq_left hm
      have := run_copy_row (P := Try.prog) (w0.alloc (.cells (wC i zeros64).toArray 107)) 27 27 ty 5 w0.heap.size 1 64 64 ⟨b, o, none⟩ m.length c (wC i zeros64).toArray 107 (m.map B) l_und27 hsz
        (heap_alloc_new w0 _) (by rw [List.length_map, hmin]) (fun j v hv => by
          have hj : j < (m.map B).length := by
            rcases Nat.lt_or_ge j (m.map B).length with h | h
            · exact h
            · rw [List.getElem?_eq_none h] at hv; cases hv
          rw [addr_add, hc j hj, hv]) (by simp [wC, zeros64]; omega) (B_one m)
      rw [this]
      have e := splice_pad i m
      unfold splice at e
      rw [List.toList_toArray, List.append_assoc, e, List.length_map]
      exact congrArg (Result.ok (goInt m.length)) (putRow_new w0 (wC i zeros64).toArray 107 (wC i (pad64 m)))
theorem wpList_copy_w {ops : Array Oper} {rest : List Oper} {o : Oper} {a : Act} {Q : Exit → Act → World → Prop} (hgd : o.guard = none) (d s : Operand)
    (ho : o.op = .call { callee := .builtin .copy, args := #[d, s], argTypes := #[27, 27] }) (w0 : World) (i : Int) (sa : Option Addr) (c : Nat) (m : List UInt8)
    (hd : a.eval d = .slice (some ⟨w0.heap.size, 1, none⟩) 64 64) (hs : a.eval s = .slice sa m.length c) (hr : Rd w0 sa m) (hm : m.length ≤ 64)
    (h : wpList Try.prog ops Q rest (a.put o.dst (goInt m.length)) (w0.alloc (.cells (wC i (pad64 m)).toArray 107))) : wpList Try.prog ops Q (o :: rest) a (w0.alloc (.cells (wC i zeros64).toArray 107)) := by
  refine wpList_plain hgd fun K hK => ?_
  have hrun := run_copy_w w0 o.type i sa c m hr hm
  unfold Oper.wp
  simp [execOp, ho, resolve, invoke, builtin, hd, hs, hrun, Result.andThen]
  exact hK _ _ h
@[go_sem] theorem ld107_new (w : World) (n : Nat) (i : Int) (d : List UInt8) (hn : n = w.heap.size) (hd : d.length = 64) :
    ldRun 107 (.pointer (some ⟨n, 0, none⟩)) (w.alloc (.cells (wC i d).toArray 107)) = .ok (.value (Agg (wC i d))) (w.alloc (.cells (wC i d).toArray 107)) := by
  subst hn
  rw [ld_blk (n := 65) wide107 (Blk.new w 107 _) (by rw [List.toList_toArray, wC_length]; omega)]
  congr 3
  rw [List.toList_toArray, List.drop_zero, List.take_of_length_le (by rw [wC_length]; omega)]
@[go_sem] theorem ld107_new_drew (w : World) (n : Nat) (i : Int) (d : List UInt8) (hn : n = w.heap.size) (hd : d.length = 64) :
    ldRun 107 (.pointer (some ⟨n, 0, none⟩)) (w.alloc (.cells (wC i d).toArray 107)).drew = .ok (.value (Agg (wC i d))) (w.alloc (.cells (wC i d).toArray 107)).drew :=
  ld107_new w.drew n i d hn hd

def DSt.put (st : DSt) (i : Nat) (d : List UInt8) : DSt := { st with waits := st.waits ++ [(i, d)] }
def DSt.write (st : DSt) (i : Int) (d : List UInt8) : DSt × Int :=
  if st.may i = 0 then (if 64 < d.length then (st, 3) else ((st.put i.toNat (pad64 d)).changed, 0)) else (st, st.may i)
def WritePost (S : Nat → Prop) (p : Nat) (r : DSt × Int) (w : World) (e : Ending) (w' : World) : Prop :=
  e = .returned (.int .i64 r.2) ∧ IsDisk w' (Grow S w w') p r.1 ∧ Mod S w w'
theorem IsDisk.grow {w : World} {S : Nat → Prop} {p : Nat} {st : DSt} (h : IsDisk w S p st) : IsDisk w (Grow S w w) p st := by
  obtain ⟨lv, wv, h⟩ := h
  exact ⟨lv, wv, h.obj, .inl h.own, h.last.kept (Mod.refl None w) (fun _ _ h => h) (fun _ h => .inl h), h.waits.kept (Mod.refl None w) (fun _ _ h => h) (fun _ h => .inl h), h.lp, h.wp, h.lw, h.ok,
    fun k hk => by rcases hk with hk | hk; exact h.lt k hk; omega⟩

theorem write_own {w : World} {S : Nat → Prop} {p : Nat} {st : DSt} {lv wv : Value} (h : DiskAt w S p st lv wv) (o1 o2 : Obj) : ((w.alloc o1).alloc o2).drew.ownsRow 0 107 65 wv st.waits.length (waitC st.waits) :=
  (h.waits.kept (S' := S) ((((Mod.refl None w).alloc o1).alloc o2).drew) (fun _ _ h => h) (fun _ h => h)).1
theorem write_cell {w : World} {S : Nat → Prop} {p : Nat} {st : DSt} {lv wv : Value} (h : DiskAt w S p st lv wv) {o1 o2 : Obj} {w3 : World} (hm : Mod (fun k => wv.ownBlock = some k) ((w.alloc o1).alloc o2).drew w3) :
    w3.cell? ⟨p, 1, none⟩ = some wv ∧ w3.frozen? ⟨p, 1, none⟩ = false := by
  have hb : Blk w3 p 102 [lv, wv, .int .i64 st.armed, .bool st.down] := hm.blk (((h.obj.alloc o1).alloc o2).drew) h.wp
  exact ⟨hb.is rfl, hb.free 1⟩
theorem IsDisk.mono {w : World} {S S' : Nat → Prop} {p : Nat} {st : DSt} (h : IsDisk w S p st) (hS : ∀ k, S k → S' k) (hlt : ∀ k, S' k → k < w.heap.size) : IsDisk w S' p st := by
  obtain ⟨lv, wv, h⟩ := h
  exact ⟨lv, wv, h.obj, hS _ h.own, ⟨h.last.1, fun g hg => hS g (h.last.2 g hg)⟩, ⟨h.waits.1, fun g hg => hS g (h.waits.2 g hg)⟩, h.lp, h.wp, h.lw, h.ok, hlt⟩
theorem waitC_snoc (l : List (Nat × List UInt8)) (i : Nat) (d : List UInt8) : waitC (l ++ [(i, d)]) = waitC l ++ wC i d := by
  simp [waitC]
theorem write_end {w w3 : World} {S : Nat → Prop} {p : Nat} {st : DSt} {lv wv : Value} {i : Int} {d : List UInt8} (h : DiskAt w S p st lv wv) (hm : st.may i = 0) (hd : (pad64 d).length = 64) {o1 o2 : Obj} {va : Option Addr} {vc : Nat}
    (h1 : w3.ownsRow 0 107 65 (.slice va (st.waits.length + 1) vc) (st.waits.length + 1) (waitC st.waits ++ wC i (pad64 d))) (h2 : Mod (fun k => wv.ownBlock = some k) ((w.alloc o1).alloc o2).drew w3)
    (h3 : ∀ g, (Value.slice va (st.waits.length + 1) vc).ownBlock = some g → wv.ownBlock = some g ∨ (((w.alloc o1).alloc o2).drew.heap.size ≤ g ∧ g < w3.heap.size)) :
    IsDisk (w3.setCell ⟨p, 1, none⟩ (.slice va (st.waits.length + 1) vc)) (Grow S w w3) p (st.put i.toNat (pad64 d)) ∧ Mod S w (w3.setCell ⟨p, 1, none⟩ (.slice va (st.waits.length + 1) vc)) := by
  have hi : 0 ≤ i ∧ i < st.last.length := by
    unfold DSt.may at hm
    split at hm
    · omega
    · split at hm
      · omega
      · omega
  have hi' : ((i.toNat : Nat) : Int) = i := Int.toNat_of_nonneg hi.1
  have m0 : ∀ T, Mod T w ((w.alloc o1).alloc o2).drew := fun T => (((Mod.refl T w).alloc o1).alloc o2).drew
  have m1 : Mod S w w3 := (m0 S).then h2 (fun k _ e => h.waits.2 k e)
  have m2 : Mod S w (w3.setCell ⟨p, 1, none⟩ (.slice va (st.waits.length + 1) vc)) := m1.set (.inl h.own) _
  have hsz : ((w.alloc o1).alloc o2).drew.heap.size = w.heap.size + 2 := by simp
  have hpn : ∀ g, (Value.slice va (st.waits.length + 1) vc).ownBlock = some g → g ≠ p := by
    intro g hg e
    subst e
    rcases h3 g hg with h' | h'
    · exact h.wp h'
    · have := h.obj.lt; omega
  have hob : Blk w3 p 102 [lv, wv, .int .i64 st.armed, .bool st.down] := h2.blk (((h.obj.alloc o1).alloc o2).drew) h.wp
  have mset : Mod (fun k => k = p) w3 (w3.setCell ⟨p, 1, none⟩ (.slice va (st.waits.length + 1) vc)) := Mod.set (S := fun k => k = p) (Mod.refl _ _) (.inl rfl) _
  refine ⟨⟨lv, .slice va (st.waits.length + 1) vc, hob.set 1 _, .inl h.own, ?_, ?_, h.lp, fun e => hpn p e rfl, ?_, ⟨h.ok.one, h.ok.most, h.ok.sec, ?_, h.ok.arm⟩, ?_⟩, m2⟩
  · have h5 := h.last.kept (m0 None) (fun _ _ h => h) (fun _ h => h)
    have h6 := h5.kept h2 (fun g hg e => h.lw g hg e) (fun _ h => h)
    exact h6.kept mset (fun g hg e => h.lp (by rw [hg, e])) (fun _ h => .inl h)
  · have h5 : OwnR w3 (Grow S w w3) 107 65 (.slice va (st.waits.length + 1) vc) (st.put i.toNat (pad64 d)).waits.length (waitC (st.put i.toNat (pad64 d)).waits) := by
      refine ⟨?_, fun g hg => ?_⟩
      · show w3.ownsRow 0 107 65 _ (st.waits ++ [(i.toNat, pad64 d)]).length (waitC (st.waits ++ [(i.toNat, pad64 d)]))
        rw [waitC_snoc, hi', List.length_append]; exact h1
      · rcases h3 g hg with h' | h'
        · exact .inl (h.waits.2 g h')
        · exact .inr ⟨by omega, h'.2⟩
    exact h5.kept mset (fun g hg e => hpn g hg e) (fun _ h => h)
  · intro g hg e
    rcases h3 g e with h' | h'
    · exact h.lw g hg h'
    · have := h.lt g (h.last.2 g hg); omega
  · intro x hx
    rcases List.mem_append.1 hx with hx | hx
    · exact h.ok.wait x hx
    · simp only [List.mem_singleton] at hx
      subst hx
      exact ⟨by show i.toNat < st.last.length; omega, hd⟩
  · intro k hk
    rw [World.size_setCell]
    rcases hk with hk | hk
    · have := h.lt k hk; have := m1.size; omega
    · exact hk.2
theorem write_new (w : World) (i : Int) (d : List UInt8) : RdV ((w.alloc (.cells (wC i d).toArray 107)).alloc (.cells (wC i d).toArray 107)).drew (some ⟨w.heap.size + 1, 0, none⟩) (wC i d) := by
  have h : Blk ((w.alloc (.cells (wC i d).toArray 107)).alloc (.cells (wC i d).toArray 107)).drew (w.heap.size + 1) 107 (wC i d) := by
    have := Blk.new (w.alloc (.cells (wC i d).toArray 107)) 107 (wC i d).toArray
    rw [World.size_alloc] at this; exact this
  exact h.rdv 0 (fun k _ => by rw [Nat.zero_add])
set_option maxRecDepth 100000 in
set_option maxHeartbeats 1600000 in
theorem write_any (w : World) (S : Nat → Prop) (p : Nat) (st : DSt) (h : IsDisk w S p st) (i : Int) (a : Option Addr) (c : Nat) (d : List UInt8) (hr : Rd w a d) (hd : d.length ≤ 140737488351232) (hroom : st.waits.length < 3000000000000) :
    Calls Try.prog 30 #[.pointer (some ⟨p, 0, none⟩), .int .i64 i, .slice a d.length c] w (WritePost S p (st.write i d) w) := by
  by_cases hm : st.may i = 0
  · by_cases hl : 64 < d.length
    · have hw : st.write i d = (st, 3) := by unfold DSt.write; rw [if_pos hm, if_pos hl]
      rw [hw]
      have HM := hid hm
      have hl' : (64 : Int) < (d.length : Int) := by omega
      clear hm hw hroom
      go_enter Try.func30, Try.ntmps30
      go_wp2_with fail
      refine (may_any _ S p st h i).mono ?_
      rintro e w' ⟨rfl, rfl⟩
      rw [HM.out]
      go_wp2_with fail
      go_ret
      exact ⟨rfl, h.grow, Mod.refl _ _⟩
    · have hw : st.write i d = ((st.put i.toNat (pad64 d)).changed, 0) := by unfold DSt.write; rw [if_pos hm, if_neg hl]
      rw [hw]
      have HM := hid hm
      have hl' : ¬ (64 : Int) < (d.length : Int) := by omega
      clear hm hw
      have H := hid h
      have HR := hid hr
      have HL := hid (show d.length ≤ 64 by omega)
      have HP := hid (pad64_length d (by omega))
      clear h hr
      go_enter Try.func30, Try.ntmps30
      go_wp2_with fail
      refine (may_any _ S p st H.out i).mono ?_
      rintro e w' ⟨rfl, rfl⟩
      rw [HM.out]
      go_wp2_with (refine wpList_copy_w rfl (.tmp 21) (.tmp 22) rfl w i a c d rfl rfl HR.out HL.out ?_)
      obtain ⟨lv, wv, hat⟩ := H.out
      obtain ⟨_, hp1, _, _⟩ := hat.cells
      have hf1 := hat.obj.free 1
      have hplt := hat.obj.lt
      obtain ⟨wa, wc, rfl, hwc, hwm⟩ := hat.waits.shape
      have HA := hid hat
      have HOW := hid (fun o1 o2 => (write_own hat o1 o2))
      have HRN := hid (write_new w i (pad64 d))
      clear hat
      obtain ⟨it, hi, hz, hsz, hby⟩ := info_parts d_info107
      have hd64 := HP.out
      go_region_law (refine step_of rfl (wp_append_R (.tmp 28) (.tmp 30) 100 rfl 107 it (Agg (wC 0 zeros64)) 65 72 d_und100 hi hz hsz hby (wC_length 0 zeros64) (by decide) (.slice wa st.waits.length wc) st.waits.length (waitC st.waits) rfl (HOW.out _ _) _ 1 1 (wC i (pad64 d)) rfl (by rw [wC_length, HP.out]) HRN.out (wC_ones _ _) (by unfold maxLen; omega) (by omega) ?_); intro va vc w3 g1 g2 g3; obtain ⟨c3, f3⟩ := write_cell HA.out g2.out)
      all_goals
        obtain ⟨hd1, hm1⟩ := write_end HA.out HM.out HP.out g1.out g2.out g3.out
        have HD := hid hd1
        have HMM := hid hm1
        clear hd1 hm1 g1 g2 g3 c3 f3 hp1 hf1 hplt
        go_wp2_with fail
        refine (changed_any _ _ p _ HD.out).mono ?_
        rintro e w5 ⟨rfl, hd5, hm5⟩
        have HD5 := hid hd5
        have HM5 := hid hm5
        clear hd5 hm5
        go_wp2_with fail
        go_ret
        refine ⟨rfl, HD5.out.mono (fun k hk => hk.imp id (fun h => ⟨h.1, Nat.lt_of_lt_of_le h.2 (by have := HM5.out.size; rwa [World.size_setCell] at this)⟩)) (fun k hk => ?_), HMM.out.then HM5.out (fun k _ e => by subst e; exact HA.out.own)⟩
        rcases hk with hk | hk
        · exact Nat.lt_of_lt_of_le (HA.out.lt k hk) (Nat.le_trans HMM.out.size HM5.out.size)
        · exact hk.2
  · have hw : st.write i d = (st, st.may i) := by unfold DSt.write; rw [if_neg hm]
    rw [hw]
    have hne : (st.may i != 0) = true := by rw [bne_iff_ne]; exact hm
    clear hm hw
    have H := hid h
    clear h hroom
    generalize hx : st.may i = x at *
    have HX := hid hx
    clear hx
    go_enter Try.func30, Try.ntmps30
    go_wp2_with fail
    refine (may_any _ S p st H.out i).mono ?_
    rintro e w' ⟨rfl, rfl⟩
    rw [HX.out]
    go_wp2_with fail
    go_ret
    exact ⟨rfl, H.out.grow, Mod.refl _ _⟩
end Go.Proofs.Ytdhhpnfdnoaihaa

/-! D5 -/
/- Disk.settle and Disk.Flush. -/
namespace Go.Proofs.Ytdhhpnfdnoaihaa
open Go.RowKit

theorem flat_len {α : Type} (f : α → List Value) (s : Nat) (l : List α) (h : ∀ x ∈ l, (f x).length = s) : (l.flatMap f).length = l.length * s := by
  induction l with
  | nil => simp
  | cons x l ih =>
    rw [List.flatMap_cons, List.length_append, h x (by simp), ih (fun y hy => h y (by simp [hy])), List.length_cons, Nat.succ_mul, Nat.add_comm]
theorem flat_at {α : Type} (f : α → List Value) (s : Nat) (l : List α) (rest : List Value) (h : ∀ x ∈ l, (f x).length = s) : ∀ (k : Nat) (hk : k < l.length), ((l.flatMap f ++ rest).drop (k * s)).take s = f l[k] := by
  induction l with
  | nil => intro k hk; simp at hk
  | cons x l ih =>
    intro k hk
    have hx := h x (by simp)
    rw [List.flatMap_cons, List.append_assoc]
    cases k with
    | zero =>
      rw [Nat.zero_mul, List.drop_zero, List.take_append_of_le_length (by omega), List.take_of_length_le (by omega)]; rfl
    | succ k =>
      rw [show (k + 1) * s = (f x).length + k * s by rw [hx, Nat.succ_mul]; omega, List.drop_length_add_append]
      exact ih (fun y hy => h y (by simp [hy])) k (by simpa using hk)
theorem splice_skip {α : Type} (A X Y : List α) (o : Nat) : splice (A ++ X) (A.length + o) Y = A ++ splice X o Y := by
  unfold splice
  rw [List.take_length_add_append, Nat.add_assoc, List.drop_length_add_append, List.append_assoc]
theorem flat_set {α : Type} (f : α → List Value) (s : Nat) (y : α) (hy : (f y).length = s) (l : List α) (rest : List Value) (h : ∀ x ∈ l, (f x).length = s) : ∀ (k : Nat), k < l.length → splice (l.flatMap f ++ rest) (k * s) (f y) = (l.set k y).flatMap f ++ rest := by
  induction l with
  | nil => intro k hk; simp at hk
  | cons x l ih =>
    intro k hk
    have hx := h x (by simp)
    rw [List.flatMap_cons, List.append_assoc]
    cases k with
    | zero =>
      rw [List.set_cons_zero, List.flatMap_cons, List.append_assoc, Nat.zero_mul]
      unfold splice
      rw [List.take_zero, List.nil_append, Nat.zero_add, hy, ← hx, List.drop_left]
    | succ k =>
      rw [show (k + 1) * s = (f x).length + k * s by rw [hx, Nat.succ_mul]; omega, splice_skip, ih (fun z hz => h z (by simp [hz])) k (by simpa using hk), List.set_cons_succ, List.flatMap_cons, List.append_assoc]
@[go_sem] theorem ld105_new_drew (w : World) (n : Nat) (i : Int) (d : List UInt8) (hn : n = w.heap.size) (hd : d.length = 64) :
    ldRun 105 (.pointer (some ⟨n, 1, none⟩)) (w.alloc (.cells (wC i d).toArray 107)).drew = .ok (.value (Agg (sC d))) (w.alloc (.cells (wC i d).toArray 107)).drew :=
  ld105_new w.drew n i d hn hd

@[go_sem] theorem wC_get0 (i : Int) (d : List UInt8) (h : 0 < (wC i d).length) : (wC i d)[0]'h = .int .i64 i := rfl
def setAll (l : List (List UInt8)) (x : List (Nat × List UInt8)) : List (List UInt8) := x.foldl (fun l y => l.set y.1 y.2) l
theorem setAll_length (x : List (Nat × List UInt8)) : ∀ l, (setAll l x).length = l.length := by
  induction x with
  | nil => intro l; rfl
  | cons y x ih => intro l; show (setAll (l.set y.1 y.2) x).length = _; rw [ih, List.length_set]
theorem setAll_sec (x : List (Nat × List UInt8)) (hx : ∀ y ∈ x, y.2.length = 64) : ∀ l : List (List UInt8), (∀ s ∈ l, s.length = 64) → ∀ s ∈ setAll l x, s.length = 64 := by
  induction x with
  | nil => intro l hl; exact hl
  | cons y x ih =>
    intro l hl
    refine ih (fun z hz => hx z (by simp [hz])) _ (fun s hs => ?_)
    rcases List.mem_or_eq_of_mem_set hs with hs | rfl
    · exact hl s hs
    · exact hx y (by simp)
theorem setAll_snoc (l : List (List UInt8)) (x : List (Nat × List UInt8)) (y : Nat × List UInt8) : setAll l (x ++ [y]) = (setAll l x).set y.1 y.2 := by simp [setAll]
def DSt.settle (st : DSt) (n : Nat) : DSt := { st with last := setAll st.last (st.waits.take n) }
theorem DSt.settle_zero (st : DSt) : st.settle 0 = st := rfl
theorem DSt.settle_succ (st : DSt) (k : Nat) (h : k < st.waits.length) : st.settle (k + 1) = { st with last := (st.settle k).last.set st.waits[k].1 st.waits[k].2 } := by
  unfold DSt.settle
  rw [List.take_succ_eq_append_getElem h, setAll_snoc]
theorem DSt.settle_succ' (st : DSt) (k : Nat) (h : k < (st.settle k).waits.length) (a : Nat) (d : List UInt8) (hx : (st.settle k).waits[k] = (a, d)) :
    st.settle (k + 1) = { st with last := (st.settle k).last.set a d } := by
  have h' : k < st.waits.length := h
  have hx' : st.waits[k] = (a, d) := hx
  rw [DSt.settle_succ st k h', hx']
theorem DSt.Ok.settle {st : DSt} (h : st.Ok) (n : Nat) : (st.settle n).Ok where
  one := by show 1 ≤ (setAll _ _).length; rw [setAll_length]; exact h.one
  most := by show (setAll _ _).length ≤ _; rw [setAll_length]; exact h.most
  sec := setAll_sec _ (fun y hy => (h.wait y (List.mem_of_mem_take hy)).2) _ h.sec
  wait := fun x hx => by show x.1 < (setAll _ _).length ∧ _; rw [setAll_length]; exact h.wait x hx
  arm := h.arm
theorem sec_len {st : DSt} (h : st.Ok) : ∀ s ∈ st.last, (sC s).length = 64 := fun s hs => by rw [sC_length]; exact h.sec s hs
theorem wait_len {st : DSt} (h : st.Ok) : ∀ x ∈ st.waits, (wC x.1 x.2).length = 65 := fun x hx => by rw [wC_length, (h.wait x hx).2]
/-- what a round of settle reads and stores -/
theorem settle_round {w : World} {S : Nat → Prop} {p : Nat} {st : DSt} {g n c : Nat} {lv : Value} (h : DiskAt w S p st lv (.slice (some ⟨g, 0, none⟩) n c)) {k : Nat} (hk : k < st.waits.length) :
    ldRun 107 (.pointer (some ⟨g, k * 65, none⟩)) w = .ok (.value (Agg (wC st.waits[k].1 st.waits[k].2))) w ∧
    ∃ L lc lrest, lv = .slice (some ⟨L, 0, none⟩) st.last.length lc ∧ (∀ o, stRun 105 (.pointer (some ⟨L, st.waits[k].1 * 64, none⟩)) (Agg (sC st.waits[k].2)) (w.alloc o).drew = .ok .skip (putRow (w.alloc o).drew L (lastC (st.last.set st.waits[k].1 st.waits[k].2) ++ lrest))) ∧
      ∀ o, IsDisk (putRow (w.alloc o).drew L (lastC (st.last.set st.waits[k].1 st.waits[k].2) ++ lrest)) S p { st with last := st.last.set st.waits[k].1 st.waits[k].2 } ∧
        DiskAt (putRow (w.alloc o).drew L (lastC (st.last.set st.waits[k].1 st.waits[k].2) ++ lrest)) S p { st with last := st.last.set st.waits[k].1 st.waits[k].2 } lv (.slice (some ⟨g, 0, none⟩) n c) ∧
        Mod S w (putRow (w.alloc o).drew L (lastC (st.last.set st.waits[k].1 st.waits[k].2) ++ lrest)) := by
  have hmem : st.waits[k] ∈ st.waits := List.getElem_mem hk
  obtain ⟨h1, h2⟩ := h.ok.wait _ hmem
  have hsl := sec_len h.ok
  have hwl := wait_len h.ok
  obtain ⟨L, lc, lrest, rfl, hSL, hLb, hl1, hl2, hl3, hl4⟩ := h.lastv
  obtain ⟨g', wc, wrest, e, hSg, hgb, hw1, hw2, hw3, hw4⟩ := h.waits.open1 (by omega)
  obtain ⟨rfl, rfl, rfl⟩ : g = g' ∧ n = st.waits.length ∧ c = wc := by simpa using e
  have hlen : (lastC (st.last.set st.waits[k].1 st.waits[k].2)).length = st.last.length * 64 := by
    have := flat_len sC 64 (st.last.set st.waits[k].1 st.waits[k].2) (fun s hs => by
      rcases List.mem_or_eq_of_mem_set hs with hs | rfl
      · exact hsl s hs
      · rw [sC_length, h2])
    rw [List.length_set] at this; exact this
  refine ⟨?_, L, lc, lrest, rfl, ?_, ?_⟩
  · rw [ld_blk (n := 65) wide107 hgb ?_]
    · congr 3
      exact flat_at (fun x : Nat × List UInt8 => wC x.1 x.2) 65 st.waits wrest hwl k hk
    · have : (k + 1) * 65 ≤ st.waits.length * 65 := Nat.mul_le_mul_right _ hk
      rw [List.length_append, hw4]; omega
  · intro o
    have hb : Blk (w.alloc o).drew L 105 (lastC st.last ++ lrest) := (hLb.alloc o).drew
    rw [st_blk (n := 64) wide105 hb ?_ (by rw [sC_length, h2]) (sC_ones _)]
    · congr 2
      exact flat_set sC 64 st.waits[k].2 (by rw [sC_length, h2]) st.last lrest hsl _ h1
    · have : (st.waits[k].1 + 1) * 64 ≤ st.last.length * 64 := Nat.mul_le_mul_right _ h1
      rw [List.length_append, hl4]; omega
  · intro o
    have m0 : ∀ T, Mod T w (w.alloc o).drew := fun T => ((Mod.refl T w).alloc o).drew
    have hb : Blk (w.alloc o).drew L 105 (lastC st.last ++ lrest) := (hLb.alloc o).drew
    have m1 : Mod (fun k => k = L) (w.alloc o).drew (putRow (w.alloc o).drew L (lastC (st.last.set st.waits[k].1 st.waits[k].2) ++ lrest)) := Mod.put (S := fun k => k = L) (Mod.refl _ _) (.inl rfl) _
    have hd : DiskAt (putRow (w.alloc o).drew L (lastC (st.last.set st.waits[k].1 st.waits[k].2) ++ lrest)) S p { st with last := st.last.set st.waits[k].1 st.waits[k].2 } (.slice (some ⟨L, 0, none⟩) st.last.length lc) (.slice (some ⟨g, 0, none⟩) st.waits.length c) := by
      refine ⟨m1.blk (((h.obj.alloc o).drew)) (fun e => h.lp (by rw [e]; rfl)), h.own, ?_, ?_, h.lp, h.wp, h.lw, ⟨?_, ?_, ?_, ?_, h.ok.arm⟩, ?_⟩
      · refine ⟨⟨by show (lastC (st.last.set _ _)).length = (st.last.set _ _).length * 64; rw [hlen, List.length_set], .inr ⟨L, lc, _, ?_, Nat.zero_le _, hb.put _, ?_, hl2, ?_, ?_⟩⟩, fun g hg => h.last.2 g hg⟩
        · show _ = Value.slice _ (st.last.set _ _).length _; rw [List.length_set]
        · show (st.last.set _ _).length ≤ _; rw [List.length_set]; exact hl1
        · rw [List.size_toArray, List.length_append, hlen, ← hl4, ← List.length_append]; exact hl3
        · show List.take ((st.last.set _ _).length * 64) _ = _
          rw [List.length_set, List.toList_toArray, ← hlen, List.take_left]
      · exact (h.waits.kept (m0 None) (fun _ _ h => h) (fun _ h => h)).kept m1 (fun g hg e => h.lw L rfl (by rw [hg, e])) (fun _ h => h)
      · show 1 ≤ (st.last.set _ _).length; rw [List.length_set]; exact h.ok.one
      · show (st.last.set _ _).length ≤ _; rw [List.length_set]; exact h.ok.most
      · intro s hs
        rcases List.mem_or_eq_of_mem_set hs with hs | rfl
        · exact h.ok.sec s hs
        · exact h2
      · intro x hx
        show x.1 < (st.last.set _ _).length ∧ _
        rw [List.length_set]; exact h.ok.wait x hx
      · intro k hk
        have := h.lt k hk
        simp; omega
    exact ⟨⟨_, _, hd⟩, hd, (m0 S).then m1 (fun k _ e => by subst e; exact hSL)⟩

set_option maxRecDepth 100000 in
set_option maxHeartbeats 800000 in
theorem settle_any (w : World) (S : Nat → Prop) (p : Nat) (st : DSt) (h : IsDisk w S p st) (n : Nat) (hn : n ≤ st.waits.length) :
    Calls Try.prog 65 #[.pointer (some ⟨p, 0, none⟩), .int .i64 (n : Int)] w (DiskPost (.tuple #[]) S p (st.settle n) S w) := by
  obtain ⟨lv, wv, h⟩ := h
  obtain ⟨_, h1, _, _⟩ := h.cells
  have H := hid h
  obtain ⟨wa, wc, rfl, hwc, hwm⟩ := h.waits.shape
  clear h
  have hn0 : (n : Int) ≤ (wc : Int) := by omega
  unfold maxLen at hwm
  go_enter Try.func65, Try.ntmps65
  go_wp2
  clear h1
  go_loopw [13] (fun i wr => ∃ k : Nat, k ≤ n ∧ i = .int .i64 k ∧ Hid (DiskAt wr S p (st.settle k) lv (.slice wa st.waits.length wc)) ∧ Hid (Mod S w wr)) (fun i _ => n - (intOf i).toNat)
  case atStart => exact ⟨0, by omega, rfl, H.out, Mod.refl _ _⟩
  case round =>
    obtain ⟨k, hk, rfl, hat, hmd⟩ := hrel
    by_cases hlt : k < n
    · have hkw : k < (st.settle k).waits.length := by show k < st.waits.length; omega
      have ha0 := hat.out.waits.open1 (show 0 < (st.settle k).waits.length by omega)
      obtain ⟨g, _, _, e, _⟩ := ha0
      obtain ⟨rfl, _, _⟩ : wa = some ⟨g, 0, none⟩ ∧ True ∧ True := by cases e; exact ⟨rfl, trivial, trivial⟩
      clear e
      obtain ⟨hld, L, lc, lrest, rfl, hst, hnext⟩ := settle_round hat.out hkw
      obtain ⟨hc0, _, _, _⟩ := hat.out.cells
      have hwk := (hat.out.ok.wait _ (List.getElem_mem hkw))
      have hplt := hat.out.obj.lt
      have HN := hid hnext
      generalize hx : (st.settle k).waits[k] = x at *
      obtain ⟨at', dd⟩ := x
      obtain ⟨hx1, hx2⟩ := hwk
      simp only at hx1 hx2 hld hst
      have hx1' : (at' : Int) < ((st.settle k).last.length : Int) := by omega
      go_wp2
      refine wp_region_still_tail 9 (by kernel_rfl) (by kernel_rfl) ?_
      change wpStill _ _ (World.drew _) (fun a' => wpList _ _ _ _ a' (World.drew _)) _ _
      simp only [List.take_succ_cons, List.take_zero, List.drop_succ_cons, List.drop_zero]
      repeat still_step
      refine wpStill_nil ?_
      go_wp2
      have HS := hid (DSt.settle_succ' st k hkw at' dd hx)
      go_roundw
      case rel => exact ⟨k + 1, by omega, by go_num, by rw [HS.out]; exact (HN.out _).2.1, hmd.out.trans (HN.out _).2.2⟩
      case measure => simp [intOf]; omega
    · obtain rfl : k = n := by omega
      go_wp2
      go_end0
      exact ⟨rfl, ⟨_, _, hat.out⟩, hmd.out⟩

def DSt.flush (st : DSt) : DSt × Int := if st.down then (st, 32) else (({ st.settle st.waits.length with waits := [] } : DSt).changed, 0)
def FlushPost (S : Nat → Prop) (p : Nat) (r : DSt × Int) (w : World) (e : Ending) (w' : World) : Prop :=
  e = .returned (.int .i64 r.2) ∧ IsDisk w' S p r.1 ∧ Mod S w w'
/-- the waiting writes are struck -/
theorem DiskAt.struck {w w' : World} {S : Nat → Prop} {p : Nat} {st : DSt} {lv wv : Value} (h : DiskAt w S p st lv wv) (hm : Mod (fun k => k = p) w w') {a : Int} {d : Bool}
    (hb : Blk w' p 102 [lv, .slice none 0 0, .int .i64 a, .bool d]) (ha : -1 ≤ a ∧ a ≤ 9223372036854775807) : DiskAt w' S p { last := st.last, waits := [], armed := a, down := d } lv (.slice none 0 0) where
  obj := hb
  own := h.own
  last := h.last.kept hm (fun g hg e => h.lp (by rw [hg, e])) (fun _ h => h)
  waits := ⟨World.ownsRow_nil _ _ _ _, fun g hg => by cases hg⟩
  lp := h.lp
  wp := fun e => by cases e
  lw := fun g _ e => by cases e
  ok := ⟨h.ok.one, h.ok.most, h.ok.sec, (fun x hx => by cases hx), ha⟩
  lt := fun k hk => Nat.lt_of_lt_of_le (h.lt k hk) hm.size
set_option maxHeartbeats 400000 in
theorem flush_any (w : World) (S : Nat → Prop) (p : Nat) (st : DSt) (h : IsDisk w S p st) :
    Calls Try.prog 29 #[.pointer (some ⟨p, 0, none⟩)] w (FlushPost S p st.flush w) := by
  by_cases hd : st.down = true
  · have hf : st.flush = (st, 32) := by unfold DSt.flush; rw [if_pos hd]
    rw [hf]
    obtain ⟨lv, wv, hat⟩ := h
    obtain ⟨_, _, _, h3⟩ := hat.cells
    have H := hid hat
    clear hat hf
    rw [hd] at h3
    clear hd
    go_enter Try.func29, Try.ntmps29
    go_wp2
    go_ret
    exact ⟨rfl, ⟨_, _, H.out⟩, Mod.refl _ _⟩
  · have hf : st.flush = (({ st.settle st.waits.length with waits := [] } : DSt).changed, 0) := by unfold DSt.flush; rw [if_neg hd]
    rw [hf]
    obtain ⟨lv, wv, hat⟩ := h
    obtain ⟨_, h1, _, h3⟩ := hat.cells
    obtain ⟨wa, wc, rfl, _, _⟩ := hat.waits.shape
    have H := hid hat
    clear hat hf
    rw [Bool.not_eq_true] at hd
    rw [hd] at h3
    clear hd
    go_enter Try.func29, Try.ntmps29
    go_wp2_with fail
    refine (settle_any w S p st ⟨_, _, H.out⟩ st.waits.length (Nat.le_refl _)).mono ?_
    rintro e w1 ⟨rfl, hd1, hm1⟩
    obtain ⟨lv1, wv1, hat1⟩ := hd1
    obtain ⟨_, c1, _, _⟩ := hat1.cells
    have f1 := hat1.obj.free 1
    have H1 := hid hat1
    have HM1 := hid hm1
    clear hat1 hm1 h1 h3
    go_wp2_with fail
    have hm2 : Mod (fun k => k = p) w1 (w1.setCell ⟨p, 1, none⟩ (.slice none 0 0)) := Mod.set (S := fun k => k = p) (Mod.refl _ _) (.inl rfl) _
    have HM2 := hid hm2
    have HD2 := hid (H1.out.struck hm2 (H1.out.obj.set 1 _) H1.out.ok.arm)
    clear hm2 c1 f1
    refine (changed_any _ S p _ ⟨_, _, HD2.out⟩).mono ?_
    rintro e w5 ⟨rfl, hd5, hm5⟩
    have HD5 := hid hd5
    have HM5 := hid hm5
    clear hd5 hm5
    go_wp2_with fail
    go_ret
    exact ⟨rfl, HD5.out, (HM1.out.then HM2.out (fun k _ e => by subst e; exact H.out.own)).then HM5.out (fun k _ e => by subst e; exact H.out.own)⟩
end Go.Proofs.Ytdhhpnfdnoaihaa

/-! D6 -/
/- Disk.Crash. -/
namespace Go.Proofs.Ytdhhpnfdnoaihaa
open Go.RowKit

/-- copy of bytes into a row -/
theorem run_copy_blk {w : World} {g off dLen dCap : Nat} {t ty : TypeId} {cur : List Value} (hb : Blk w g t cur) {sa : Option Addr} {n c : Nat} {vs : List Value} (hr : RdV w sa vs) (hn : vs.length = n) (h1 : Ones vs) (hl : off + Nat.min n dLen ≤ cur.length) :
    (Builtin.copy_ #[27, 27] ty #[.slice (some ⟨g, off, none⟩) dLen dCap, .slice sa n c]).run Try.prog w = .ok (goInt (Nat.min n dLen)) (putRow w g (splice cur off (vs.take (Nat.min n dLen)))) := by
  have hsz : (Try.prog.info? 5).map (·.size) = some 1 := by kernel_rfl
  subst hn
  by_cases h0 : Nat.min vs.length dLen = 0
  · have := run_copy_none (P := Try.prog) w 27 27 ty 5 (some ⟨g, off, none⟩) sa dLen dCap vs.length c l_und27 hsz h0
    rw [this, h0, List.take_zero]
    have e : splice cur off ([] : List Value) = cur := by simp [splice]
    rw [e]
    unfold putRow
    rw [setRow_self w g cur.toArray t (0, 0) hb]; rfl
  · rcases hr with h | ⟨b, o, rfl, hc⟩
    · subst h; simp at h0
    · have hlen : (vs.take (Nat.min vs.length dLen)).length = Nat.min vs.length dLen := by
        rw [List.length_take]; exact Nat.min_eq_left (Nat.min_le_left _ _)
      have := run_copy_row (P := Try.prog) w 27 27 ty 5 g off dLen dCap ⟨b, o, none⟩ vs.length c cur.toArray t (vs.take (Nat.min vs.length dLen)) l_und27 hsz hb hlen (fun j v hv => by
        have hj : j < (vs.take (Nat.min vs.length dLen)).length := by
          rcases Nat.lt_or_ge j (vs.take (Nat.min vs.length dLen)).length with h | h
          · exact h
          · rw [List.getElem?_eq_none h] at hv; cases hv
        rw [hlen] at hj
        rw [List.getElem?_take, if_pos hj] at hv
        have hj2 : j < vs.length := Nat.lt_of_lt_of_le hj (Nat.min_le_left _ _)
        rw [addr_add, hc j hj2, hv]) (by rw [hlen]; simpa using hl) (fun v hv => h1 v (List.mem_of_mem_take hv))
      rw [this]
      unfold putRow splice
      rw [hlen, List.toList_toArray, List.append_assoc]
theorem wpList_copy_blk {w : World} {ops : Array Oper} {rest : List Oper} {o : Oper} {a : Act} {Q : Exit → Act → World → Prop} (hgd : o.guard = none) (d s : Operand)
    (ho : o.op = .call { callee := .builtin .copy, args := #[d, s], argTypes := #[27, 27] }) {g off dLen dCap : Nat} {t : TypeId} {cur : List Value} {sa : Option Addr} {n c : Nat} {vs : List Value}
    (hd : a.eval d = .slice (some ⟨g, off, none⟩) dLen dCap) (hs : a.eval s = .slice sa n c) (hb : Blk w g t cur) (hr : RdV w sa vs) (hn : vs.length = n) (h1 : Ones vs) (hl : off + Nat.min n dLen ≤ cur.length)
    (h : wpList Try.prog ops Q rest (a.put o.dst (goInt (Nat.min n dLen))) (putRow w g (splice cur off (vs.take (Nat.min n dLen))))) : wpList Try.prog ops Q (o :: rest) a w := by
  refine wpList_plain hgd fun K hK => ?_
  have hrun := run_copy_blk (ty := o.type) (dCap := dCap) (c := c) hb hr hn h1 hl
  unfold Oper.wp
  simp [execOp, ho, resolve, invoke, builtin, hd, hs, hrun, Result.andThen]
  exact hK _ _ h
theorem splice_part {α : Type} (X Y : List α) (o t : Nat) (ht : t ≤ 64) (hY : Y.length = 64) (hX : o + 64 ≤ X.length) : splice X o (Y.take t) = splice X o (Y.take t ++ ((X.drop o).take 64).drop t) := by
  have h1 : (Y.take t).length = t := by simp; omega
  have h2 : (Y.take t ++ ((X.drop o).take 64).drop t).length = 64 := by simp; omega
  unfold splice
  rw [h2, h1, List.append_assoc]
  congr 2
  rw [← List.drop_drop, ← List.drop_drop]
  conv => lhs; rw [← List.take_append_drop 64 (X.drop o)]
  rw [List.drop_append_of_le_length (by simp; omega)]

def torn (d old : List UInt8) (t : Nat) : List UInt8 := d.take t ++ old.drop t
def DSt.tear (st : DSt) (x : Nat × List UInt8) (t : Nat) : DSt := { st with last := st.last.set x.1 (torn x.2 (st.last.getD x.1 []) t) }
def clampN (a : Int) (n : Nat) : Nat := (min (max a 0) (n : Int)).toNat
def DSt.crashed (st : DSt) (n t : Nat) : DSt :=
  { last := (match st.waits[n]? with | some x => ((st.settle n).tear x t).last | none => (st.settle n).last), waits := [], armed := -1, down := false }
def DSt.crash (st : DSt) (keep tn : Int) : DSt := st.crashed (clampN keep st.waits.length) (clampN tn 64)
theorem DSt.crashed_none (st : DSt) (n t : Nat) (h : st.waits.length ≤ n) : st.crashed n t = { last := (st.settle n).last, waits := [], armed := -1, down := false } := by
  unfold DSt.crashed; rw [List.getElem?_eq_none h]
theorem DSt.crashed_some (st : DSt) (n t : Nat) (x : Nat × List UInt8) (h : st.waits[n]? = some x) : st.crashed n t = { last := ((st.settle n).tear x t).last, waits := [], armed := -1, down := false } := by
  unfold DSt.crashed; rw [h]
/-- the greater and the lesser of two, kept whole in a walk -/
def imax (a b : Int) : Int := max a b
def imin (a b : Int) : Int := min a b
noncomputable def mxRun (v u : Value) (w : World) : Result Next := (Sem.run Try.prog (do let x ← Builtin.max_ #[3, 3] 3 #[v, u]; pure (Next.value x) : Sem Next) w)
noncomputable def mnRun (v u : Value) (w : World) : Result Next := (Sem.run Try.prog (do let x ← Builtin.min_ #[3, 3] 3 #[v, u]; pure (Next.value x) : Sem Next) w)
section
variable (ρ : Operand → Value) (dst : Option Tmp) (x y : Operand) (pos : String) (after : Array Edge) (g : Option (Nat × Bool)) (w : World)
@[go_sem ↓] theorem exec_max : (execOp ρ { dst := dst, op := .call { callee := .builtin .max, args := #[x, y], argTypes := #[3, 3] }, type := 3, pos := pos, after := after, guard := g }).run Try.prog w = mxRun (ρ x) (ρ y) w := by
  unfold mxRun
  simp only [execOp, resolve, invoke, builtin, Sem.run_bind, Sem.run_pure, Result.andThen_ok, List.map_toArray, List.map_cons, List.map_nil]
@[go_sem ↓] theorem exec_min : (execOp ρ { dst := dst, op := .call { callee := .builtin .min, args := #[x, y], argTypes := #[3, 3] }, type := 3, pos := pos, after := after, guard := g }).run Try.prog w = mnRun (ρ x) (ρ y) w := by
  unfold mnRun
  simp only [execOp, resolve, invoke, builtin, Sem.run_bind, Sem.run_pure, Result.andThen_ok, List.map_toArray, List.map_cons, List.map_nil]
end
@[go_sem] theorem run_imax (a b : Int) (w : World) : mxRun (.int .i64 a) (.int .i64 b) w = .ok (.value (.int .i64 (imax a b))) w := by
  unfold mxRun imax
  have e : max a b = if b > a then b else a := by split <;> omega
  rw [e]
  simp [Builtin.max_, Builtin.max2]
@[go_sem] theorem run_imin (a b : Int) (w : World) : mnRun (.int .i64 a) (.int .i64 b) w = .ok (.value (.int .i64 (imin a b))) w := by
  unfold mnRun imin
  have e : min a b = if b < a then b else a := by split <;> omega
  rw [e]
  simp [Builtin.min_, Builtin.min2]
theorem clamp_if (a : Int) (n : Nat) : imin (imax a 0) (n : Int) = (clampN a n : Int) := by
  unfold clampN imin imax; omega
theorem clamp_le (a : Int) (n : Nat) : clampN a n ≤ n := by unfold clampN; omega
def VoidPost (S : Nat → Prop) (p : Nat) (st : DSt) (w : World) (e : Ending) (w' : World) : Prop := e = .returned (.tuple #[]) ∧ IsDisk w' S p st ∧ Mod S w w'

theorem crash_end {w w1 : World} {S : Nat → Prop} {p : Nat} {st : DSt} {lv wv : Value} (hS : S p) (hm : Mod S w w1) (h : DiskAt w1 S p st lv wv) :
    VoidPost S p { last := st.last, waits := [], armed := -1, down := false } w (.returned (.tuple #[])) (((w1.setCell ⟨p, 1, none⟩ (.slice none 0 0)).setCell ⟨p, 3, none⟩ (.bool false)).setCell ⟨p, 2, none⟩ (.int .i64 (-1))) := by
  have m : ∀ T : Nat → Prop, T p → Mod T w1 (((w1.setCell ⟨p, 1, none⟩ (.slice none 0 0)).setCell ⟨p, 3, none⟩ (.bool false)).setCell ⟨p, 2, none⟩ (.int .i64 (-1))) :=
    fun T hT => Mod.set (Mod.set (Mod.set (Mod.refl _ _) (.inl hT) _) (.inl hT) _) (.inl hT) _
  exact ⟨rfl, ⟨_, _, h.struck (m (fun k => k = p) rfl) (((h.obj.set 1 _).set 3 _).set 2 _) (by omega)⟩, hm.trans (m S hS)⟩
theorem crash_round {w : World} {S : Nat → Prop} {p : Nat} {st : DSt} {g n c : Nat} {lv : Value} (h : DiskAt w S p st lv (.slice (some ⟨g, 0, none⟩) n c)) {k : Nat} (hk : k < st.waits.length) {x : Nat × List UInt8} (hx : st.waits[k]? = some x) :
    ldRun 107 (.pointer (some ⟨g, k * 65, none⟩)) w = .ok (.value (Agg (wC x.1 x.2))) w ∧
    ∃ L lc lrest, lv = .slice (some ⟨L, 0, none⟩) st.last.length lc ∧ Blk w L 105 (lastC st.last ++ lrest) ∧ x.1 < st.last.length ∧ x.2.length = 64 ∧
      ∀ o t, t ≤ 64 → DiskAt (putRow (w.alloc o).drew L (splice (lastC st.last ++ lrest) (x.1 * 64) ((sC x.2).take t))) S p (st.tear x t) lv (.slice (some ⟨g, 0, none⟩) n c) ∧
        Mod S w (putRow (w.alloc o).drew L (splice (lastC st.last ++ lrest) (x.1 * 64) ((sC x.2).take t))) := by
  obtain ⟨hxk, hxe⟩ := List.getElem?_eq_some_iff.1 hx
  have hmem : x ∈ st.waits := by rw [← hxe]; exact List.getElem_mem hxk
  obtain ⟨h1, h2⟩ := h.ok.wait _ hmem
  have hsl := sec_len h.ok
  have hwl := wait_len h.ok
  obtain ⟨L, lc, lrest, rfl, hSL, hLb, hl1, hl2, hl3, hl4⟩ := h.lastv
  obtain ⟨g', wc, wrest, e, hSg, hgb, hw1, hw2, hw3, hw4⟩ := h.waits.open1 (by omega)
  obtain ⟨rfl, rfl, rfl⟩ : g = g' ∧ n = st.waits.length ∧ c = wc := by simpa using e
  refine ⟨?_, L, lc, lrest, rfl, hLb, h1, h2, ?_⟩
  · rw [ld_blk (n := 65) wide107 hgb ?_]
    · congr 3
      rw [← hxe]
      exact flat_at (fun x : Nat × List UInt8 => wC x.1 x.2) 65 st.waits wrest hwl k hk
    · have : (k + 1) * 65 ≤ st.waits.length * 65 := Nat.mul_le_mul_right _ hk
      rw [List.length_append, hw4]; omega
  · intro o t ht
    have hold : st.last.getD x.1 [] = st.last[x.1] := by rw [List.getD_eq_getElem?_getD, List.getElem?_eq_getElem h1]; rfl
    have holdlen : st.last[x.1].length = 64 := h.ok.sec _ (List.getElem_mem h1)
    have htl : (torn x.2 (st.last.getD x.1 []) t).length = 64 := by
      unfold torn; rw [hold, List.length_append, List.length_take, List.length_drop]; omega
    have hfit : x.1 * 64 + 64 ≤ (lastC st.last ++ lrest).length := by
      have : (x.1 + 1) * 64 ≤ st.last.length * 64 := Nat.mul_le_mul_right _ h1
      rw [List.length_append, hl4]; omega
    have hsp : splice (lastC st.last ++ lrest) (x.1 * 64) ((sC x.2).take t) = lastC (st.last.set x.1 (torn x.2 (st.last.getD x.1 []) t)) ++ lrest := by
      rw [splice_part _ _ _ t ht (by rw [sC_length, h2]) hfit]
      rw [show List.take 64 (List.drop (x.1 * 64) (lastC st.last ++ lrest)) = sC st.last[x.1] from flat_at sC 64 st.last lrest hsl x.1 h1]
      rw [← show sC (torn x.2 (st.last.getD x.1 []) t) = (sC x.2).take t ++ (sC st.last[x.1]).drop t from by
        unfold torn sC; rw [hold, List.map_append, List.map_take, List.map_drop]]
      exact flat_set sC 64 _ (by rw [sC_length, htl]) st.last lrest hsl _ h1
    have hlen : (lastC (st.last.set x.1 (torn x.2 (st.last.getD x.1 []) t))).length = st.last.length * 64 := by
      have := flat_len sC 64 (st.last.set x.1 (torn x.2 (st.last.getD x.1 []) t)) (fun s hs => by
        rcases List.mem_or_eq_of_mem_set hs with hs | rfl
        · exact hsl s hs
        · rw [sC_length, htl])
      rw [List.length_set] at this; exact this
    rw [hsp]
    have m0 : ∀ T, Mod T w (w.alloc o).drew := fun T => ((Mod.refl T w).alloc o).drew
    have hb : Blk (w.alloc o).drew L 105 (lastC st.last ++ lrest) := (hLb.alloc o).drew
    have m1 : Mod (fun k => k = L) (w.alloc o).drew (putRow (w.alloc o).drew L (lastC (st.last.set x.1 (torn x.2 (st.last.getD x.1 []) t)) ++ lrest)) := Mod.put (S := fun k => k = L) (Mod.refl _ _) (.inl rfl) _
    refine ⟨?_, (m0 S).then m1 (fun k _ e => by subst e; exact hSL)⟩
    refine ⟨m1.blk (((h.obj.alloc o).drew)) (fun e => h.lp (by rw [e]; rfl)), h.own, ?_, ?_, h.lp, h.wp, h.lw, ⟨?_, ?_, ?_, ?_, h.ok.arm⟩, ?_⟩
    · refine ⟨⟨by show (lastC (st.last.set _ _)).length = (st.last.set _ _).length * 64; rw [hlen, List.length_set], .inr ⟨L, lc, _, ?_, Nat.zero_le _, hb.put _, ?_, hl2, ?_, ?_⟩⟩, fun g hg => h.last.2 g hg⟩
      · show _ = Value.slice _ (st.last.set _ _).length _; rw [List.length_set]
      · show (st.last.set _ _).length ≤ _; rw [List.length_set]; exact hl1
      · rw [List.size_toArray, List.length_append, hlen, ← hl4, ← List.length_append]; exact hl3
      · show List.take ((st.last.set _ _).length * 64) _ = _
        rw [List.length_set, List.toList_toArray, ← hlen, List.take_left]; rfl
    · exact (h.waits.kept (m0 None) (fun _ _ h => h) (fun _ h => h)).kept m1 (fun g hg e => h.lw L rfl (by rw [hg, e])) (fun _ h => h)
    · show 1 ≤ (st.last.set _ _).length; rw [List.length_set]; exact h.ok.one
    · show (st.last.set _ _).length ≤ _; rw [List.length_set]; exact h.ok.most
    · intro s hs
      rcases List.mem_or_eq_of_mem_set hs with hs | rfl
      · exact h.ok.sec s hs
      · exact htl
    · intro x hx
      show x.1 < (st.last.set _ _).length ∧ _
      rw [List.length_set]; exact h.ok.wait x hx
    · intro k hk
      have := h.lt k hk
      simp; omega
theorem crash_src (w : World) (i : Int) (d : List UInt8) : RdV (w.alloc (.cells (wC i d).toArray 107)).drew (some ⟨w.heap.size, 1, none⟩) (sC d) := by
  have h : Blk (w.alloc (.cells (wC i d).toArray 107)).drew w.heap.size 107 (wC i d) := Blk.new w 107 (wC i d).toArray
  exact h.rdv 1 (fun k hk => by rw [Nat.add_comm]; rfl)
theorem crash_fit {l : List (List UInt8)} {rest : List Value} (h : ∀ s ∈ l, s.length = 64) {a k : Nat} (ha : a < l.length) (hk : k ≤ 64) : a * 64 + k ≤ (lastC l ++ rest).length := by
  have := flat_len sC 64 l (fun s hs => by rw [sC_length]; exact h s hs)
  have h2 : (a + 1) * 64 ≤ l.length * 64 := Nat.mul_le_mul_right _ ha
  have h3 : (lastC l).length = l.length * 64 := this
  rw [List.length_append, h3]; omega
set_option maxRecDepth 100000 in
set_option maxHeartbeats 1600000 in
theorem crash_any (w : World) (S : Nat → Prop) (p : Nat) (st : DSt) (h : IsDisk w S p st) (keep tn : Int) :
    Calls Try.prog 32 #[.pointer (some ⟨p, 0, none⟩), .int .i64 keep, .int .i64 tn] w (VoidPost S p (st.crash keep tn) w) := by
  obtain ⟨lv, wv, hat⟩ := h
  obtain ⟨_, h1, _, _⟩ := hat.cells
  obtain ⟨wa, wc, rfl, _, _⟩ := hat.waits.shape
  have H := hid hat
  clear hat
  have hc := clamp_if keep st.waits.length
  have hle := clamp_le keep st.waits.length
  generalize hn : clampN keep st.waits.length = n at *
  have HN := hid hn
  clear hn
  go_enter Try.func32, Try.ntmps32
  go_wp2_with fail
  refine (settle_any w S p st ⟨_, _, H.out⟩ n hle).mono ?_
  rintro e w1 ⟨rfl, hd1, hm1⟩
  obtain ⟨lv1, wv1, hat1⟩ := hd1
  obtain ⟨c0, c1, _, _⟩ := hat1.cells
  obtain ⟨wa1, wc1, rfl, _, _⟩ := hat1.waits.shape
  have hwl : (st.settle n).waits.length = st.waits.length := rfl
  rw [hwl] at c1 hat1
  have H1 := hid hat1
  have HM1 := hid hm1
  clear hat1 hm1 h1 hc hwl
  by_cases hlt : n < st.waits.length
  · obtain ⟨x, hx⟩ : ∃ x, st.waits[n]? = some x := ⟨_, List.getElem?_eq_getElem hlt⟩
    have hs : st.crash keep tn = { last := ((st.settle n).tear x (clampN tn 64)).last, waits := [], armed := -1, down := false } := by
      unfold DSt.crash; rw [HN.out, DSt.crashed_some _ _ _ _ hx]
    have HS := hid hs
    clear hs
    have hc2 : imin (imax tn 0) 64 = ((clampN tn 64 : Nat) : Int) := clamp_if tn 64
    have hle2 := clamp_le tn 64
    generalize clampN tn 64 = tt at *
    have hkw : n < (st.settle n).waits.length := hlt
    obtain ⟨g, _, _, e, _⟩ := H1.out.waits.open1 (show 0 < st.waits.length by omega)
    obtain ⟨rfl, _, _⟩ : wa1 = some ⟨g, 0, none⟩ ∧ True ∧ True := by cases e; exact ⟨rfl, trivial, trivial⟩
    clear e
    obtain ⟨hld, L, lc, lrest, rfl, hb, hok⟩ := crash_round H1.out hkw hx
    obtain ⟨at', dd⟩ := x
    obtain ⟨hx1, hx2, hnext⟩ := hok
    simp only at hx1 hx2 hld hnext
    have hx1' : (at' : Int) < ((st.settle n).last.length : Int) := by omega
    have hplt := H1.out.obj.lt
    have hn' : (n : Int) < (st.waits.length : Int) := by omega
    have ht0 : (tt : Int) ≤ 64 := by omega
    have HB := hid hb
    have HX := hid hx
    have HNX := hid hnext
    clear hx hb hnext
    go_wp2_with fail
    refine wp_region_still_tail 13 (by kernel_rfl) (by kernel_rfl) ?_
    change wpStill _ _ (World.drew _) (fun a' => wpList _ _ _ _ a' (World.drew _)) _ _
    simp only [List.take_succ_cons, List.take_zero, List.drop_succ_cons, List.drop_zero]
    repeat still_step
    refine wpStill_nil ?_
    refine wpList_copy_blk rfl (.tmp 43) (.tmp 45) rfl (vs := sC dd) rfl rfl ((HB.out.alloc _).drew) (crash_src w1 at' dd) (by rw [sC_length, hx2]) (sC_ones dd) (crash_fit H1.out.ok.sec hx1 (by have : Nat.min 64 tt = tt := Nat.min_eq_right hle2; omega)) ?_
    have e : Nat.min 64 tt = tt := Nat.min_eq_right hle2
    rw [e]
    obtain ⟨hat2, hm2⟩ := HNX.out (.cells (wC (at' : Int) dd).toArray 107) tt hle2
    have H2 := hid hat2
    have HM2 := hid hm2
    clear hat2 hm2
    generalize putRow _ _ _ = w2 at *
    have f1 := H2.out.obj.free 1
    have f2 := H2.out.obj.free 2
    have f3 := H2.out.obj.free 3
    have d1 := H2.out.obj.is (i := 1) rfl
    have d2 := H2.out.obj.is (i := 2) rfl
    have d3 := H2.out.obj.is (i := 3) rfl
    clear c0 c1 hld hc2
    go_wp2_with fail
    go_end0
    rw [HS.out]
    exact crash_end H.out.own (HM1.out.trans HM2.out) H2.out
  · have hs : st.crash keep tn = { last := (st.settle n).last, waits := [], armed := -1, down := false } := by
      unfold DSt.crash; rw [HN.out, DSt.crashed_none _ _ _ (by omega)]
    have HS := hid hs
    clear hs
    have f1 := H1.out.obj.free 1
    have f2 := H1.out.obj.free 2
    have f3 := H1.out.obj.free 3
    have c2 := H1.out.obj.is (i := 2) rfl
    have c3 := H1.out.obj.is (i := 3) rfl
    go_wp2_with fail
    go_end0
    rw [HS.out]
    exact crash_end H.out.own HM1.out H1.out
end Go.Proofs.Ytdhhpnfdnoaihaa

/-! D7 -/
/- Disk.Read. -/
namespace Go.Proofs.Ytdhhpnfdnoaihaa
open Go.RowKit

theorem DiskAt.keep {w w' : World} {S T : Nat → Prop} {p : Nat} {st : DSt} {lv wv : Value} (h : DiskAt w S p st lv wv) (hm : Mod T w w') (hT : ∀ k, S k → ¬ T k) : DiskAt w' S p st lv wv where
  obj := hm.blk h.obj (hT p h.own)
  own := h.own
  last := h.last.kept hm (fun g hg => hT g (h.last.2 g hg)) (fun _ h => h)
  waits := h.waits.kept hm (fun g hg => hT g (h.waits.2 g hg)) (fun _ h => h)
  lp := h.lp
  wp := h.wp
  lw := h.lw
  ok := h.ok
  lt := fun k hk => Nat.lt_of_lt_of_le (h.lt k hk) hm.size
theorem IsDisk.keep {w w' : World} {S T : Nat → Prop} {p : Nat} {st : DSt} (h : IsDisk w S p st) (hm : Mod T w w') (hT : ∀ k, S k → ¬ T k) : IsDisk w' S p st := by
  obtain ⟨lv, wv, h⟩ := h
  exact ⟨lv, wv, h.keep hm hT⟩

def readTo (l : List (Nat × List UInt8)) (k : Nat) (d : List UInt8) : List UInt8 := l.foldl (fun d x => if x.1 = k then x.2 else d) d
theorem readTo_length (k : Nat) : ∀ (l : List (Nat × List UInt8)) (d : List UInt8), d.length = 64 → (∀ x ∈ l, x.2.length = 64) → (readTo l k d).length = 64
  | [], d, hd, _ => hd
  | x :: l, d, hd, h => by
    show (readTo l k (if x.1 = k then x.2 else d)).length = 64
    refine readTo_length k l _ ?_ (fun y hy => h y (by simp [hy]))
    split
    · exact h x (by simp)
    · exact hd
theorem readTo_snoc (l : List (Nat × List UInt8)) (x : Nat × List UInt8) (k : Nat) (d : List UInt8) : readTo (l ++ [x]) k d = if x.1 = k then x.2 else readTo l k d := by
  simp [readTo]
def DSt.read (st : DSt) (i : Int) : List UInt8 × Int :=
  if st.may i = 0 then (readTo st.waits i.toNat (st.last.getD i.toNat []), 0) else ([], st.may i)
/-- what is told is new memory -/
def Told (w w' : World) (a : Option Addr) (d : List UInt8) : Prop :=
  (a = none ∧ d = []) ∨ ∃ b, a = some ⟨b, 0, none⟩ ∧ w.heap.size ≤ b ∧ Blk w' b 105 (sC d)
def ReadPost (r : List UInt8 × Int) (w : World) (e : Ending) (w' : World) : Prop :=
  ∃ a, e = .returned (.tuple #[.slice a r.1.length r.1.length, .int .i64 r.2]) ∧ Told w w' a r.1 ∧ Mod None w w'

theorem may_range {st : DSt} {i : Int} (h : st.may i = 0) : 0 ≤ i ∧ i < st.last.length ∧ st.down = false := by
  unfold DSt.may at h
  split at h
  · omega
  · rename_i hd
    split at h
    · omega
    · exact ⟨by omega, by omega, by simpa using hd⟩
theorem last_ld {w : World} {S : Nat → Prop} {p : Nat} {st : DSt} {lv wv : Value} (h : DiskAt w S p st lv wv) {k : Nat} (hk : k < st.last.length) :
    ∃ L lc, lv = .slice (some ⟨L, 0, none⟩) st.last.length lc ∧ ldRun 105 (.pointer (some ⟨L, k * 64, none⟩)) w = .ok (.value (Agg (sC (st.last.getD k [])))) w := by
  have hsl := sec_len h.ok
  obtain ⟨L, lc, lrest, rfl, hSL, hLb, hl1, hl2, hl3, hl4⟩ := h.lastv
  refine ⟨L, lc, rfl, ?_⟩
  rw [ld_blk (n := 64) wide105 hLb ?_]
  · congr 3
    rw [List.getD_eq_getElem?_getD, List.getElem?_eq_getElem hk]
    exact flat_at sC 64 st.last lrest hsl k hk
  · have : (k + 1) * 64 ≤ st.last.length * 64 := Nat.mul_le_mul_right _ hk
    rw [List.length_append, hl4]; omega
theorem wait_ld {w : World} {S : Nat → Prop} {p : Nat} {st : DSt} {g n c : Nat} {lv : Value} (h : DiskAt w S p st lv (.slice (some ⟨g, 0, none⟩) n c)) {k : Nat} (hk : k < st.waits.length) :
    ldRun 107 (.pointer (some ⟨g, k * 65, none⟩)) w = .ok (.value (Agg (wC st.waits[k].1 st.waits[k].2))) w := by
  have hwl := wait_len h.ok
  obtain ⟨g', wc, wrest, e, hSg, hgb, hw1, hw2, hw3, hw4⟩ := h.waits.open1 (by omega)
  obtain ⟨rfl, rfl, rfl⟩ : g = g' ∧ n = st.waits.length ∧ c = wc := by simpa using e
  rw [ld_blk (n := 65) wide107 hgb ?_]
  · congr 3
    exact flat_at (fun x : Nat × List UInt8 => wC x.1 x.2) 65 st.waits wrest hwl k hk
  · have : (k + 1) * 65 ≤ st.waits.length * 65 := Nat.mul_le_mul_right _ hk
    rw [List.length_append, hw4]; omega
theorem st_var {w : World} {b : Nat} {cur d : List UInt8} (h : Blk w b 105 (sC cur)) (hc : cur.length = 64) (hd : d.length = 64) (o : Obj) :
    stRun 105 (.pointer (some ⟨b, 0, none⟩)) (Agg (sC d)) (w.alloc o) = .ok .skip (putRow (w.alloc o) b (sC d)) := by
  rw [st_blk (n := 64) wide105 (h.alloc o) (by rw [sC_length]; omega) (by rw [sC_length, hd]) (sC_ones d)]
  rw [splice_all _ _ (by rw [sC_length, sC_length, hc, hd])]

set_option maxRecDepth 100000 in
set_option maxHeartbeats 1600000 in
theorem read_any (w : World) (S : Nat → Prop) (p : Nat) (st : DSt) (h : IsDisk w S p st) (i : Int) :
    Calls Try.prog 33 #[.pointer (some ⟨p, 0, none⟩), .int .i64 i] w (ReadPost (st.read i) w) := by
  by_cases hm : st.may i = 0
  · have hw : st.read i = (readTo st.waits i.toNat (st.last.getD i.toNat []), 0) := by unfold DSt.read; rw [if_pos hm]
    rw [hw]
    have HM := hid hm
    obtain ⟨hi0, hi1, _⟩ := may_range hm
    obtain ⟨k, rfl⟩ : ∃ k : Nat, i = (k : Int) := ⟨i.toNat, by omega⟩
    have hk : k < st.last.length := by omega
    rw [Int.toNat_natCast]
    clear hm hw hi0
    obtain ⟨lv, wv, hat⟩ := h
    obtain ⟨h0, h1, _, _⟩ := hat.cells
    obtain ⟨L, lc, rfl, hld⟩ := last_ld hat hk
    obtain ⟨wa, wc, rfl, hwc, hwm⟩ := hat.waits.shape
    unfold maxLen at hwm
    have hplt := hat.obj.lt
    have hsl : (st.last.getD k []).length = 64 := by
      rw [List.getD_eq_getElem?_getD, List.getElem?_eq_getElem hk]; exact hat.ok.sec _ (List.getElem_mem hk)
    have hws : ∀ x ∈ st.waits, x.2.length = 64 := fun x hx => (hat.ok.wait x hx).2
    have HWS := hid hws
    have H := hid hat
    clear hat hws
    generalize st.last.getD k [] = d0 at *
    go_enter Try.func33, Try.ntmps33
    go_wp2_with fail
    refine (may_any _ S p st ⟨_, _, H.out⟩ k).mono ?_
    rintro e w' ⟨rfl, rfl⟩
    rw [HM.out]
    go_wp2_with fail
    have hb0 : Blk (w.alloc (.cells (sC d0).toArray 105)) w.heap.size 105 (sC d0) := Blk.new w 105 _
    have hm0 : Mod None w (w.alloc (.cells (sC d0).toArray 105)) := (Mod.refl None w).alloc _
    have HB0 := hid hb0
    have HM0 := hid hm0
    clear hb0 hm0 hld h0 h1
    generalize w.alloc (.cells (sC d0).toArray 105) = w1 at *
    go_loopw [28] (fun i wr => ∃ j : Nat, j ≤ st.waits.length ∧ i = .int .i64 j ∧ Hid (Blk wr w.heap.size 105 (sC (readTo (st.waits.take j) k d0))) ∧ Hid (Mod None w wr)) (fun i _ => st.waits.length - (intOf i).toNat)
    case atStart => exact ⟨0, by omega, rfl, HB0.out, HM0.out⟩
    case round =>
      obtain ⟨j, hj, rfl, hb, hmd⟩ := hrel
      by_cases hlt : j < st.waits.length
      · obtain ⟨g, _, _, e, _⟩ := H.out.waits.open1 (show 0 < st.waits.length by omega)
        obtain ⟨rfl, _, _⟩ : wa = some ⟨g, 0, none⟩ ∧ True ∧ True := by cases e; exact ⟨rfl, trivial, trivial⟩
        clear e
        have hat' := H.out.keep hmd.out (fun _ _ h => h)
        have hld := wait_ld hat' hlt
        have hwk := hat'.ok.wait _ (List.getElem_mem hlt)
        have hcur := readTo_length k (st.waits.take j) d0 hsl (fun x hx => HWS.out x (List.mem_of_mem_take hx))
        have hnx : readTo (st.waits.take (j + 1)) k d0 = if st.waits[j].1 = k then st.waits[j].2 else readTo (st.waits.take j) k d0 := by
          rw [List.take_succ_eq_append_getElem hlt, readTo_snoc]
        have HNX := hid hnx
        clear hat' hnx
        generalize hx : st.waits[j] = x at *
        obtain ⟨at', dd⟩ := x
        obtain ⟨hx1, hx2⟩ := hwk
        simp only at hx1 hx2 hld HNX
        generalize readTo (st.waits.take j) k d0 = cur at *
        have hst := fun o => st_var hb.out hcur hx2 o
        have HX := hid hx
        clear hx hcur
        by_cases hk' : at' = k
        · have hk2 : (at' : Int) = (k : Int) := by omega
          have HN : Hid (readTo (st.waits.take (j + 1)) k d0 = dd) := by rw [HNX.out, if_pos hk']; exact rfl
          clear hk'
          go_wp2
          go_roundw
          case rel => exact ⟨j + 1, by omega, by go_num, by rw [HN.out]; exact (hb.out.alloc _).put _, (hmd.out.alloc _).put (.inr (Nat.le_refl _)) _⟩
          case measure => simp [intOf]; omega
        · have hk2 : ¬ (at' : Int) = (k : Int) := by omega
          have HN : Hid (readTo (st.waits.take (j + 1)) k d0 = cur) := by rw [HNX.out, if_neg hk']; exact rfl
          clear hk'
          go_wp2
          go_roundw
          case rel => exact ⟨j + 1, by omega, by go_num, by rw [HN.out]; exact hb.out.alloc _, hmd.out.alloc _⟩
          case measure => simp [intOf]; omega
      · obtain rfl : j = st.waits.length := by omega
        go_wp2
        go_ret2
        have e : st.waits.take st.waits.length = st.waits := List.take_length
        rw [e] at hb
        have hl := readTo_length k st.waits d0 hsl HWS.out
        refine ⟨some ⟨w.heap.size, 0, none⟩, ?_, .inr ⟨_, rfl, Nat.le_refl _, hb.out⟩, hmd.out⟩
        rw [hl]; rfl
  · have hw : st.read i = ([], st.may i) := by unfold DSt.read; rw [if_neg hm]
    rw [hw]
    have hne : (st.may i != 0) = true := by rw [bne_iff_ne]; exact hm
    clear hm hw
    have H := hid h
    clear h
    generalize hx : st.may i = x at *
    have HX := hid hx
    clear hx
    go_enter Try.func33, Try.ntmps33
    go_wp2_with fail
    refine (may_any _ S p st H.out i).mono ?_
    rintro e w' ⟨rfl, rfl⟩
    rw [HX.out]
    go_wp2_with fail
    go_ret2
    exact ⟨none, rfl, .inl ⟨rfl, rfl⟩, Mod.refl _ _⟩
end Go.Proofs.Ytdhhpnfdnoaihaa

/-! D8 -/
/- A disk of the walk's own; awake of layer 3. -/
namespace Go.Proofs.Ytdhhpnfdnoaihaa
open Go.RowKit

/-- the disk at p is st; S is what it owns, all of it new since w0 -/
def Live (w0 w : World) (S : Nat → Prop) (p : Nat) (st : DSt) : Prop := IsDisk w S p st ∧ Mod None w0 w ∧ ∀ k, S k → w0.heap.size ≤ k
/-- a call that may have written S, and S' is what it left -/
structure Turn (S S' : Nat → Prop) (w w' : World) : Prop where
  mod : Mod S w w'
  old : ∀ k, k < w.heap.size → S' k → S k
theorem Turn.same {S : Nat → Prop} {w w' : World} (h : Mod S w w') : Turn S S w w' := ⟨h, fun _ _ h => h⟩
/-- bytes that are read, in a block that S does not hold -/
def Safe (S : Nat → Prop) (w : World) (a : Option Addr) (l : List UInt8) : Prop := Rd w a l ∧ (l = [] ∨ ∃ b o, a = some ⟨b, o, none⟩ ∧ b < w.heap.size ∧ ¬ S b)
theorem Safe.turn {S S' : Nat → Prop} {w w' : World} {a : Option Addr} {l : List UInt8} (h : Safe S w a l) (t : Turn S S' w w') : Safe S' w' a l := by
  obtain ⟨h1, rfl | ⟨b, o, rfl, hb, hs⟩⟩ := h
  · exact ⟨.inl rfl, .inl rfl⟩
  · exact ⟨t.mod.rd h1 (fun x e => by cases e; exact hs), .inr ⟨b, o, rfl, Nat.lt_of_lt_of_le hb t.mod.size, fun h => hs (t.old b hb h)⟩⟩
section
variable {w0 w w' : World} {S S' : Nat → Prop} {p : Nat} {st : DSt}
theorem Live.ok (h : Live w0 w S p st) : st.Ok := by
  obtain ⟨⟨_, _, h⟩, _⟩ := h; exact h.ok
theorem Live.lt (h : Live w0 w S p st) : ∀ k, S k → k < w.heap.size := by
  obtain ⟨⟨_, _, h⟩, _⟩ := h; exact h.lt
theorem Live.own (h : Live w0 w S p st) : S p := by
  obtain ⟨⟨_, _, h⟩, _⟩ := h; exact h.own
theorem Live.step (h : Live w0 w S p st) (hm : Mod None w w') : Live w0 w' S p st :=
  ⟨h.1.keep hm (fun _ _ h => h), h.2.1.trans hm, h.2.2⟩
theorem Live.alloc (h : Live w0 w S p st) (o : Obj) : Live w0 (w.alloc o) S p st := h.step ((Mod.refl _ _).alloc o)
theorem Live.drew (h : Live w0 w S p st) : Live w0 w.drew S p st := h.step (Mod.refl _ _).drew
/-- another disk's call -/
theorem Live.turn {T T' : Nat → Prop} (h : Live w0 w S p st) (t : Turn T T' w w') (hd : ∀ k, S k → ¬ T k) (hT : ∀ k, T k → w0.heap.size ≤ k) : Live w0 w' S p st ∧ ∀ k, S k → ¬ T' k :=
  ⟨⟨h.1.keep t.mod hd, h.2.1.then t.mod (fun k hk hs => by have := hT k hs; omega), h.2.2⟩, fun k hk ht => hd k hk (t.old k (h.lt k hk) ht)⟩
def LNew (w0 w : World) (n : Nat) (e : Ending) (w' : World) : Prop := ∃ p S, e = .returned (.pointer (some ⟨p, 0, none⟩)) ∧ Live w0 w' S p (DSt.new n) ∧ Mod None w w' ∧ ∀ k, S k → w.heap.size ≤ k
theorem live_new (w0 w : World) (hm : Mod None w0 w) (s : Int) (n : Nat) (hn : (n : Int) = min (max s 1) 65536) : Calls Try.prog 26 #[.int .i64 s] w (LNew w0 w n) :=
  (new_any w s n hn).mono fun _ _ ⟨p, S, he, hd, hm', hS⟩ => ⟨p, S, he, ⟨hd, hm.trans hm', fun k hk => Nat.le_trans hm.size (hS k hk)⟩, hm', hS⟩
def LPost (w0 w : World) (S : Nat → Prop) (p : Nat) (v : Value) (st : DSt) (e : Ending) (w' : World) : Prop := ∃ S', e = .returned v ∧ Live w0 w' S' p st ∧ Turn S S' w w'
theorem live_write (h : Live w0 w S p st) (i : Int) (a : Option Addr) (c n : Nat) (d : List UInt8) (hn : n = d.length) (hr : Rd w a d) (hd : d.length ≤ 140737488351232) (hroom : st.waits.length < 3000000000000) :
    Calls Try.prog 30 #[.pointer (some ⟨p, 0, none⟩), .int .i64 i, .slice a n c] w (LPost w0 w S p (.int .i64 (st.write i d).2) (st.write i d).1) := by
  obtain ⟨h1, h2, h3⟩ := h
  subst hn
  refine (write_any w S p st h1 i a c d hr hd hroom).mono fun e w' ⟨he, hd', hm⟩ => ⟨_, he, ⟨hd', h2.then hm (fun k hk hs => ?_), fun k hk => ?_⟩, hm, fun k hk hg => ?_⟩
  · have := h3 k hs; omega
  · rcases hk with hk | hk
    · exact h3 k hk
    · exact Nat.le_trans h2.size hk.1
  · rcases hg with hg | hg
    · exact hg
    · omega
theorem live_flush (h : Live w0 w S p st) : Calls Try.prog 29 #[.pointer (some ⟨p, 0, none⟩)] w (LPost w0 w S p (.int .i64 st.flush.2) st.flush.1) := by
  obtain ⟨h1, h2, h3⟩ := h
  exact (flush_any w S p st h1).mono fun e w' ⟨he, hd', hm⟩ => ⟨S, he, ⟨hd', h2.then hm (fun k hk hs => by have := h3 k hs; omega), h3⟩, .same hm⟩
theorem live_arm (h : Live w0 w S p st) (n : Int) (hn : n ≤ 9223372036854775807) : Calls Try.prog 28 #[.pointer (some ⟨p, 0, none⟩), .int .i64 n] w (LPost w0 w S p (.tuple #[]) (st.arm' n)) := by
  have hp := h.own
  obtain ⟨h1, h2, h3⟩ := h
  exact (arm_any w S p st h1 n hn).mono fun e w' ⟨he, hd', hm⟩ =>
    have hm' : Mod S w w' := hm.mono (fun k _ e => by subst e; exact hp)
    ⟨S, he, ⟨hd', h2.then hm' (fun k hk hs => by have := h3 k hs; omega), h3⟩, .same hm'⟩
theorem live_crash (h : Live w0 w S p st) (k t : Int) : Calls Try.prog 32 #[.pointer (some ⟨p, 0, none⟩), .int .i64 k, .int .i64 t] w (LPost w0 w S p (.tuple #[]) (st.crash k t)) := by
  obtain ⟨h1, h2, h3⟩ := h
  exact (crash_any w S p st h1 k t).mono fun e w' ⟨he, hd', hm⟩ => ⟨S, he, ⟨hd', h2.then hm (fun k hk hs => by have := h3 k hs; omega), h3⟩, .same hm⟩
theorem live_down (h : Live w0 w S p st) : Calls Try.prog 31 #[.pointer (some ⟨p, 0, none⟩)] w fun e w' => e = .returned (.bool st.down) ∧ w = w' := down_any w S p st h.1
theorem live_waits (h : Live w0 w S p st) : Calls Try.prog 36 #[.pointer (some ⟨p, 0, none⟩)] w fun e w' => e = .returned (.int .i64 (st.waits.length : Int)) ∧ w = w' := waits_any w S p st h.1
theorem live_size (h : Live w0 w S p st) : Calls Try.prog 73 #[.pointer (some ⟨p, 0, none⟩)] w fun e w' => e = .returned (.int .i64 (st.last.length : Int)) ∧ w = w' := size_any w S p st h.1
def LRead (w0 w : World) (S : Nat → Prop) (p : Nat) (st : DSt) (r : List UInt8 × Int) (e : Ending) (w' : World) : Prop :=
  ∃ a, e = .returned (.tuple #[.slice a r.1.length r.1.length, .int .i64 r.2]) ∧ Told w w' a r.1 ∧ Safe S w' a r.1 ∧ Live w0 w' S p st ∧ Mod None w w'
theorem live_read (h : Live w0 w S p st) (i : Int) : Calls Try.prog 33 #[.pointer (some ⟨p, 0, none⟩), .int .i64 i] w (LRead w0 w S p st (st.read i)) := by
  have hlt := h.lt
  obtain ⟨h1, h2, h3⟩ := h
  refine (read_any w S p st h1 i).mono fun e w' ⟨a, he, ht, hm⟩ => ⟨a, he, ht, ?_, ⟨h1.keep hm (fun _ _ h => h), h2.trans hm, h3⟩, hm⟩
  generalize (st.read i).1 = l at *
  rcases ht with ⟨rfl, rfl⟩ | ⟨b, rfl, hb, hk⟩
  · exact ⟨.inl rfl, .inl rfl⟩
  · exact ⟨hk.rdv 0 (fun i _ => by rw [Nat.zero_add]; rfl), .inr ⟨b, 0, rfl, hk.lt, fun hs => by have := hlt b hs; omega⟩⟩
end
theorem Told.rd {w w' : World} {a : Option Addr} {d : List UInt8} (h : Told w w' a d) : Rd w' a d := by
  rcases h with ⟨rfl, rfl⟩ | ⟨b, rfl, _, hb⟩
  · exact .inl rfl
  · exact hb.rdv 0 (fun i _ => by rw [Nat.zero_add]; rfl)
theorem und9 : Try.prog.underlying 9 = some .string := by kernel_rfl
def Str (l : List UInt8) : Value := .string ⟨l.toArray⟩
/-- string(b) -/
theorem str_rd {w : World} {a : Option Addr} {l : List UInt8} (h : Rd w a l) (n c : Nat) (hn : n = l.length) : (convert 27 9 (.slice a n c)).run Try.prog w = .ok (Str l) w := by
  subst hn
  by_cases h0 : l = []
  · subst h0
    cases a with
    | none => exact Lib.run_convert_nil_bytes w 27 9 5 c und27 und5 und9
    | some x => exact run_convert_bytes_back w 27 9 5 x c [] und27 und5 und9 (fun j hj => by simp at hj)
  · rcases h with h | ⟨b, o, rfl, hc⟩
    · exact absurd (by simpa using h) h0
    · exact run_convert_bytes_back w 27 9 5 ⟨b, o, none⟩ c l und27 und5 und9 (fun j hj => by rw [addr_add]; exact Rd.at hc j hj)
theorem Rd.take {w : World} {a : Option Addr} {l : List UInt8} (h : Rd w a l) (c : Nat) : Rd w a (l.take c) := by
  rcases h with h | ⟨b, o, rfl, hc⟩
  · left; simp at h; simp [h]
  · refine .inr ⟨b, o, rfl, fun i hi => ?_⟩
    have hi' : i < c ∧ i < l.length := by simpa [Nat.lt_min] using hi
    rw [hc i (by simpa using hi'.2)]
    simp [hi'.1]
/-- a text that the code spells out -/
theorem rd_lit (w : World) (C : Array Value) (l : List UInt8) (hC : C = (l.map B).toArray) (fr : Nat × Nat) (q : Nat) (hq : q = w.heap.size) : Rd (w.alloc (.cells C 5 fr)) (some ⟨q, 0, none⟩) l := by
  subst hq hC
  refine .inr ⟨_, 0, rfl, fun i hi => ?_⟩
  rw [Nat.zero_add, cell_new]; simp

/-! awake -/
def aw0 : DSt := DSt.new 2
def aw1 : DSt := (aw0.write 0 [97, 98]).1
def aw2 : DSt := (aw1.write 0 [99, 100]).1
def aw3 : DSt := aw2.crash 1 1
def aw4 : DSt := aw3.arm' 1
def aw5 : DSt := (aw4.write 1 []).1
theorem aw0w : (aw0.write 0 [97, 98]).2 = 0 := by decide +kernel
theorem aw1w : (aw1.write 0 [99, 100]).2 = 0 := by decide +kernel
theorem aw2r : (aw2.read 0).2 = 0 ∧ (aw2.read 0).1.length = 64 ∧ (aw2.read 0).1.take 2 = [99, 100] := by decide +kernel
theorem aw3r : (aw3.read 0).2 = 0 ∧ (aw3.read 0).1.length = 64 ∧ (aw3.read 0).1.take 2 = [99, 98] := by decide +kernel
theorem aw4w : (aw4.write 1 []).2 = 0 := by decide +kernel
theorem aw5r : (aw5.read 0).2 = 32 := by decide +kernel
theorem aw5d : aw5.down = true := by decide +kernel
theorem aww : aw0.waits.length < 3000000000000 ∧ aw1.waits.length < 3000000000000 ∧ aw4.waits.length < 3000000000000 := by decide +kernel
end Go.Proofs.Ytdhhpnfdnoaihaa

/-! D11 -/
/- Clones of a disk's rows. -/
namespace Go.Proofs.Ytdhhpnfdnoaihaa
open Go.RowKit

theorem run_empty99 (w : World) : (Instr.buildSlice 99 0 #[]).run Try.prog w = .ok (.slice (some ⟨w.heap.size, 0, none⟩) 0 0) (w.alloc (.cells #[] 105)) := by
  obtain ⟨i, hi, hz, hs, hb⟩ := info_parts d_info105
  simp only [Instr.buildSlice, Sem.run_bind, run_underlying d_und99, Result.andThen_ok, sizeOf, typeInfo, hi, run_program]
  simp [hs, Instr.fill, newRow]
  have e : ∀ f : Nat → Value, (Array.range 0).map f = #[] := fun f => by apply Array.ext <;> simp
  rw [e]
theorem run_empty100 (w : World) : (Instr.buildSlice 100 0 #[]).run Try.prog w = .ok (.slice (some ⟨w.heap.size, 0, none⟩) 0 0) (w.alloc (.cells #[] 107)) := by
  obtain ⟨i, hi, hz, hs, hb⟩ := info_parts d_info107
  simp only [Instr.buildSlice, Sem.run_bind, run_underlying d_und100, Result.andThen_ok, sizeOf, typeInfo, hi, run_program]
  simp [hs, Instr.fill, newRow]
  have e : ∀ f : Nat → Value, (Array.range 0).map f = #[] := fun f => by apply Array.ext <;> simp
  rw [e]
theorem owns_empty (w : World) (e : TypeId) (size : Nat) : (w.alloc (.cells #[] e)).ownsRow 0 e size (.slice (some ⟨w.heap.size, 0, none⟩) 0 0) 0 [] :=
  ⟨by simp, .inr ⟨w.heap.size, 0, #[], rfl, Nat.zero_le _, heap_alloc_new w _, by simp, by simp [maxLen], by simp, by simp⟩⟩
section
variable (ρ : Operand → Value) (dst : Option Tmp) (ty : TypeId) (pos : String) (after : Array Edge) (g : Option (Nat × Bool)) (w : World)
@[go_sem ↓] theorem exec_emp99 : (execOp ρ { dst := dst, op := .buildSlice 99 0 #[], type := ty, pos := pos, after := after, guard := g }).run Try.prog w = .ok (.value (.slice (some ⟨w.heap.size, 0, none⟩) 0 0)) (w.alloc (.cells #[] 105)) := by
  simp only [execOp, List.map_toArray, List.map_nil, Sem.run_bind, run_empty99, Result.andThen_ok]; rfl
@[go_sem ↓] theorem exec_emp100 : (execOp ρ { dst := dst, op := .buildSlice 100 0 #[], type := ty, pos := pos, after := after, guard := g }).run Try.prog w = .ok (.value (.slice (some ⟨w.heap.size, 0, none⟩) 0 0)) (w.alloc (.cells #[] 107)) := by
  simp only [execOp, List.map_toArray, List.map_nil, Sem.run_bind, run_empty100, Result.andThen_ok]; rfl
end
/-- a row of the call's own -/
def ClonePost (e size n : Nat) (xs : List Value) (w : World) (en : Ending) (w' : World) : Prop :=
  ∃ a c, en = .returned (.slice a n c) ∧ w'.ownsRow 0 e size (.slice a n c) n xs ∧ Mod None w w' ∧ ∀ g, (Value.slice a n c).ownBlock = some g → w.heap.size ≤ g
theorem OwnR.rdv {w : World} {S : Nat → Prop} {e size n : Nat} {v : Value} {xs : List Value} (h : OwnR w S e size v n xs) {a : Option Addr} {c : Nat} (hv : v = .slice a n c) : RdV w a xs := by
  subst hv
  by_cases h0 : n = 0
  · subst h0
    left
    have := h.1.1
    simpa using this
  · obtain ⟨g, cap, rest, he, _, hb, _⟩ := h.open1 (by omega)
    obtain ⟨rfl, _⟩ : a = some ⟨g, 0, none⟩ ∧ c = cap := by simpa using he
    exact hb.rdv 0 (fun i hi => by rw [Nat.zero_add, List.getElem?_append_left hi])
theorem clone_end {w w' : World} {e size n : Nat} {xs : List Value} {o : Obj} {va : Option Addr} {vc : Nat} (h2 : w'.ownsRow 0 e size (.slice va (0 + n) vc) (0 + n) ([] ++ xs))
    (h3 : Mod (fun k => (Value.slice (some ⟨w.heap.size, 0, none⟩) 0 0).ownBlock = some k) (w.alloc o) w')
    (h4 : ∀ g, (Value.slice va (0 + n) vc).ownBlock = some g → (Value.slice (some ⟨w.heap.size, 0, none⟩) 0 0).ownBlock = some g ∨ ((w.alloc o).heap.size ≤ g ∧ g < w'.heap.size)) :
    ClonePost e size n xs w (.returned (.slice va n vc)) w' := by
  rw [Nat.zero_add] at h2 h4
  refine ⟨va, vc, rfl, h2, ((Mod.refl None w).alloc o).then h3 (fun i hi hb => ?_), fun g hg => ?_⟩
  · have e : w.heap.size = i := by simpa [Value.ownBlock] using hb
    omega
  · rcases h4 g hg with h | h
    · have e : w.heap.size = g := by simpa [Value.ownBlock] using h
      omega
    · have := h.1
      simp at this; omega
set_option maxRecDepth 100000 in
set_option maxHeartbeats 800000 in
theorem clone99_any (w : World) (a : Option Addr) (n c : Nat) (xs : List Value) (hl : xs.length = n * 64) (hr : RdV w a xs) (h1 : Ones xs) (hn : n ≤ 65536) (h0 : 0 < n) :
    Calls Try.prog 68 #[.slice a n c] w (ClonePost 105 64 n xs w) := by
  obtain ⟨i, hi, hz, hs, hb⟩ := info_parts d_info105
  rcases hr with rfl | ⟨b, o, rfl, hc⟩
  · simp at hl; omega
  have HR := hid (show RdV w (some ⟨b, o, none⟩) xs from .inr ⟨b, o, rfl, hc⟩)
  have HH := hid (And.intro hl h1)
  have HN := hid hn
  clear hc hl h1 hn
  have hcmp := Lib.run_eql_slice_nil (P := Try.prog) w 99 105 (some ⟨b, o, none⟩) n c 0 0 d_und99
  go_enter Try.func68, Try.ntmps68
  go_wp2_with (at_builtin; go_loud (refine wpList_plain rfl (fun K hK => wp_append_R (.tmp 5) (.tmp 6) 99 rfl 105 i (Agg (sC zeros64)) 64 64 d_und99 hi hz hs hb (sC_length zeros64) (by decide) _ 0 [] rfl (owns_empty w 105 64) _ n c xs rfl HH.out.1 (((Mod.refl None w).alloc _).rdv HR.out (fun _ _ h => h)) HH.out.2 (by have := HN.out; unfold maxLen; omega) (by have := HN.out; omega) (fun va vc w' h2 h3 h4 => hK _ _ ?_))); have HP := hid (clone_end h2.out h3.out h4.out); clear h2 h3 h4)
  go_ret
  exact HP.out
set_option maxRecDepth 100000 in
set_option maxHeartbeats 800000 in
theorem clone100_any (w : World) (a : Option Addr) (n c : Nat) (xs : List Value) (hl : xs.length = n * 65) (hr : RdV w a xs) (h1 : Ones xs) (hn : n < 3000000000000) :
    Calls Try.prog 69 #[.slice a n c] w (ClonePost 107 65 n xs w) := by
  obtain ⟨i, hi, hz, hs, hb⟩ := info_parts d_info107
  cases a with
  | none =>
    have hx : xs = [] := by
      rcases hr with h | ⟨_, _, h, _⟩
      · exact h
      · cases h
    subst hx
    obtain rfl : n = 0 := by
      have : n * 65 = 0 := by simpa using hl.symm
      omega
    have hcmp := Lib.run_eql_slice_nil (P := Try.prog) w 100 107 none 0 c 0 0 d_und100
    clear hn hl hr
    go_enter Try.func69, Try.ntmps69
    go_wp2
    go_ret
    exact ⟨none, 0, rfl, World.ownsRow_nil _ _ _ _, Mod.refl _ _, fun g hg => by cases hg⟩
  | some a =>
  have HR := hid hr
  have HH := hid (And.intro hl h1)
  have HN := hid hn
  clear hr hl h1 hn
  have hcmp := Lib.run_eql_slice_nil (P := Try.prog) w 100 107 (some a) n c 0 0 d_und100
  go_enter Try.func69, Try.ntmps69
  go_wp2_with (at_builtin; go_loud (refine wpList_plain rfl (fun K hK => wp_append_R (.tmp 5) (.tmp 6) 100 rfl 107 i (Agg (wC 0 zeros64)) 65 72 d_und100 hi hz hs hb (wC_length 0 zeros64) (by decide) _ 0 [] rfl (owns_empty w 107 65) _ n c xs rfl HH.out.1 (((Mod.refl None w).alloc _).rdv HR.out (fun _ _ h => h)) HH.out.2 (by have := HN.out; unfold maxLen; omega) (by have := HN.out; omega) (fun va vc w' h2 h3 h4 => hK _ _ ?_))); have HP := hid (clone_end h2.out h3.out h4.out); clear h2 h3 h4)
  go_ret
  exact HP.out
end Go.Proofs.Ytdhhpnfdnoaihaa

/-! D12 -/
/- Disk.Clone. -/
namespace Go.Proofs.Ytdhhpnfdnoaihaa
open Go.RowKit

def DClone (st : DSt) (w : World) (e : Ending) (w' : World) : Prop :=
  ∃ q S', e = .returned (.pointer (some ⟨q, 0, none⟩)) ∧ IsDisk w' S' q st ∧ Mod None w w' ∧ ∀ k, S' k → w.heap.size ≤ k
theorem lastC_ones (l : List (List UInt8)) : Ones (lastC l) := by
  intro v hv
  obtain ⟨x, _, hx⟩ := List.mem_flatMap.1 hv
  exact sC_ones x v hx
theorem waitC_ones (l : List (Nat × List UInt8)) : Ones (waitC l) := by
  intro v hv
  obtain ⟨x, _, hx⟩ := List.mem_flatMap.1 hv
  exact wC_ones x.1 x.2 v hx
theorem owns_blocks {w : World} {e size n : Nat} {v : Value} {xs : List Value} (h : w.ownsRow 0 e size v n xs) : ∀ g, v.ownBlock = some g → g < w.heap.size := fun g hg => (h.lt g hg).2
/-- the clone, joined -/
theorem clone_join {w w5 w6 : World} {q : Nat} {st : DSt} {la wa : Option Addr} {lc wc : Nat} (hok : st.Ok) (hq : q = w.heap.size) (hw5 : Mod None w w5) (hobj : Blk w5 q 102 [.slice la st.last.length lc, .slice wa st.waits.length wc, .int .i64 st.armed, .bool st.down])
    (hl : OwnR w5 (fun k => w.heap.size < k ∧ k < w5.heap.size) 105 64 (.slice la st.last.length lc) st.last.length (lastC st.last)) (hw : OwnR w5 (fun k => w.heap.size < k ∧ k < w5.heap.size) 107 65 (.slice wa st.waits.length wc) st.waits.length (waitC st.waits))
    (hd : ∀ g, (Value.slice la st.last.length lc).ownBlock = some g → (Value.slice wa st.waits.length wc).ownBlock ≠ some g) (he : w6 = w5) : DClone st w (.returned (.pointer (some ⟨q, 0, none⟩))) w6 := by
  subst he hq
  have hlt := hobj.lt
  refine ⟨_, fun k => w.heap.size ≤ k ∧ k < w6.heap.size, rfl, ⟨_, _, hobj, ⟨Nat.le_refl _, hlt⟩, ⟨hl.1, fun g hg => ?_⟩, ⟨hw.1, fun g hg => ?_⟩, fun e => ?_, fun e => ?_, hd, hok, fun k hk => hk.2⟩, hw5, fun k hk => hk.1⟩
  · have := hl.2 g hg; omega
  · have := hw.2 g hg; omega
  · have := hl.2 _ e; omega
  · have := hw.2 _ e; omega

theorem clone_done {w w1 w2 w3 : World} {st : DSt} {la wa la2 wa3 : Option Addr} {lc wc lc2 wc3 : Nat} (hok : st.Ok) (hm1 : Mod None w w1) (hb1 : Blk w1 w.heap.size 102 [.slice la st.last.length lc, .slice wa st.waits.length wc, .int .i64 st.armed, .bool st.down])
    (hm2 : Mod None w1.drew w2) (hm3 : Mod None w2 w3) (ho2 : w2.ownsRow 0 105 64 (.slice la2 st.last.length lc2) st.last.length (lastC st.last)) (hn2 : ∀ g, (Value.slice la2 st.last.length lc2).ownBlock = some g → w1.drew.heap.size ≤ g)
    (ho3 : w3.ownsRow 0 107 65 (.slice wa3 st.waits.length wc3) st.waits.length (waitC st.waits)) (hn3 : ∀ g, (Value.slice wa3 st.waits.length wc3).ownBlock = some g → w2.heap.size ≤ g) :
    DClone st w (.returned (.pointer (some ⟨w.heap.size, 0, none⟩))) ((w3.setCell ⟨w.heap.size, 0, none⟩ (.slice la2 st.last.length lc2)).setCell ⟨w.heap.size, 1, none⟩ (.slice wa3 st.waits.length wc3)) := by
  have hlt : w.heap.size < w1.drew.heap.size := hb1.lt
  have hb3 := hm3.blk (hm2.blk (hb1.drew) (fun h => h)) (fun h => h)
  have m3 : Mod None w w3 := (hm1.drew.trans hm2).trans hm3
  have ms : Mod (fun k => k = w.heap.size) w3 ((w3.setCell ⟨w.heap.size, 0, none⟩ (.slice la2 st.last.length lc2)).setCell ⟨w.heap.size, 1, none⟩ (.slice wa3 st.waits.length wc3)) :=
    Mod.set (S := fun k => k = w.heap.size) (Mod.set (S := fun k => k = w.heap.size) (Mod.refl _ _) (.inl rfl) _) (.inl rfl) _
  have s23 := hm3.size
  have s12 := hm2.size
  have ol2 := owns_blocks ho2
  have ol3 := owns_blocks ho3
  have m5 : Mod None w ((w3.setCell ⟨w.heap.size, 0, none⟩ (.slice la2 st.last.length lc2)).setCell ⟨w.heap.size, 1, none⟩ (.slice wa3 st.waits.length wc3)) := m3.then ms (fun i hi e => by omega)
  have a2 : OwnR w2 (fun k => w.heap.size < k ∧ k < w3.heap.size) 105 64 (.slice la2 st.last.length lc2) st.last.length (lastC st.last) := ⟨ho2, fun g hg => by have := hn2 g hg; have := ol2 g hg; omega⟩
  have a3 : OwnR w3 (fun k => w.heap.size < k ∧ k < w3.heap.size) 107 65 (.slice wa3 st.waits.length wc3) st.waits.length (waitC st.waits) := ⟨ho3, fun g hg => by have := hn3 g hg; have := ol3 g hg; omega⟩
  refine clone_join hok rfl m5 ((hb3.set 0 _).set 1 _) ?_ ?_ (fun g h h' => ?_) rfl
  · have b2 := (a2.kept hm3 (fun _ _ h => h) (fun _ h => h)).kept (S' := fun k => w.heap.size < k ∧ k < w3.heap.size) ms (fun g hg e => by have := hn2 g hg; omega) (fun _ h => h)
    simpa using b2
  · have b3 := a3.kept (S' := fun k => w.heap.size < k ∧ k < w3.heap.size) ms (fun g hg e => by have := hn3 g hg; omega) (fun _ h => h)
    simpa using b3
  · have := ol2 g h
    have := hn3 g h'
    omega
set_option maxRecDepth 100000 in
set_option maxHeartbeats 1600000 in
theorem dclone_any (w : World) (S : Nat → Prop) (p : Nat) (st : DSt) (h : IsDisk w S p st) (hroom : st.waits.length < 3000000000000) :
    Calls Try.prog 35 #[.pointer (some ⟨p, 0, none⟩)] w (DClone st w) := by
  obtain ⟨lv, wv, hat⟩ := h
  obtain ⟨h0, h1, h2, h3⟩ := hat.cells
  obtain ⟨la, lc, rfl, _, _⟩ := hat.last.shape
  obtain ⟨wa, wc, rfl, _, _⟩ := hat.waits.shape
  have hplt := hat.obj.lt
  have H := hid hat
  clear hat
  go_enter Try.func35, Try.ntmps35
  go_wp2_with fail
  have hb1 : Blk (w.alloc (.cells #[.slice la st.last.length lc, .slice wa st.waits.length wc, .int .i64 st.armed, .bool st.down] 102)) w.heap.size 102 [.slice la st.last.length lc, .slice wa st.waits.length wc, .int .i64 st.armed, .bool st.down] := Blk.new w 102 _
  have hm1 : Mod None w (w.alloc (.cells #[.slice la st.last.length lc, .slice wa st.waits.length wc, .int .i64 st.armed, .bool st.down] 102)) := (Mod.refl None w).alloc _
  generalize w.alloc (.cells #[.slice la st.last.length lc, .slice wa st.waits.length wc, .int .i64 st.armed, .bool st.down] 102) = w1 at *
  have HB1 := hid hb1
  have HM1 := hid hm1
  have hat1 := H.out.keep hm1 (fun _ _ h => h)
  obtain ⟨g0, g1, _, _⟩ := hat1.cells
  have hplt1 := hat1.obj.lt
  have HAT1 := hid hat1
  have HR := hid hroom
  have HOK := hid H.out.ok
  have HL99 := hid (fun W (hm : Mod None w1.drew W) => OwnR.rdv ((hat1.last.kept (Mod.refl None w1).drew (fun _ _ h => h) (fun _ h => h)).kept hm (fun _ _ h => h) (fun _ h => h)) rfl)
  have HL100 := hid (fun W (hm : Mod None w1.drew W) => OwnR.rdv ((hat1.waits.kept (Mod.refl None w1).drew (fun _ _ h => h) (fun _ h => h)).kept hm (fun _ _ h => h) (fun _ h => h)) rfl)
  have HLEN := hid (And.intro hat1.last.1.1 hat1.waits.1.1)
  clear h0 h1 h2 h3 hat1 hb1 hm1 hroom hplt
  go_region_with (first
    | (go_at_call 68; go_loud (refine (clone99_any w1.drew la _ lc (lastC st.last) HLEN.out.1 (HL99.out _ (Mod.refl _ _)) (lastC_ones _) HOK.out.most HOK.out.one).mono ?_); rintro e w2 ⟨la2, lc2, rfl, ho2, hm2, hn2⟩; have g12 := ((HAT1.out.keep (T := None) (Mod.refl None w1).drew (fun _ _ h => h)).keep hm2 (fun _ _ h => h)).cells.2.1; have HM2 := hid hm2; have HO2 := hid ho2; have HN2 := hid hn2; clear hm2 ho2 hn2)
    | (go_at_call 69; go_loud (refine (clone100_any w2 wa _ wc (waitC st.waits) HLEN.out.2 (HL100.out _ HM2.out) (waitC_ones _) HR.out).mono ?_); rintro e w3 ⟨wa3, wc3, rfl, ho3, hm3, hn3⟩; have hb3 := hm3.blk (HM2.out.blk (HB1.out.drew) (fun h => h)) (fun h => h); have f0 := hb3.free 0; have f1 := hb3.free 1; have d0 := hb3.is (i := 0) rfl; have d1 := hb3.is (i := 1) rfl; have hqlt := hb3.lt; have HB3 := hid hb3; have HM3 := hid hm3; have HO3 := hid ho3; have HN3 := hid hn3; clear hb3 hm3 ho3 hn3))
  all_goals
    go_wp2
    go_ret
    exact clone_done HOK.out HM1.out HB1.out HM2.out HM3.out HO2.out HN2.out HO3.out HN3.out
end Go.Proofs.Ytdhhpnfdnoaihaa

/-! V2 -/
/- How arguments read: rows of bools, and of a disk's deeds. -/
namespace Go.Proofs.Ytdhhpnfdnoaihaa
open Go.RowKit

theorem v_und4 : Try.prog.underlying 4 = some .bool := by kernel_rfl
theorem v_und36 : Try.prog.underlying 36 = some (.slice 4) := by kernel_rfl
theorem v_cells4 : Try.prog.cellsOf 4 = 1 := by kernel_rfl
theorem v_bytes4 : Try.prog.bytesOf 4 = 1 := by kernel_rfl
def EBool (cs : List Value) (b : Bool) : Prop := cs = [.bool b]
/-- a slice of bools -/
def VBools (w : World) (v : Value) (l : List Bool) : Prop := ∃ a cap, v = .slice a l.length cap ∧ l.length ≤ 140737488351232 ∧ Seen w 1 EBool a l
theorem view_bools {H : Type} {enc : TypeId × Value → H} {w : World} {n : Nat} {v : Value} {d : DataW H} {ps : List MemPlace} (h : Rdg enc w n 36 v.cells.toList = some (d, ps)) (hz : Small 36 d)
    (hv : ∃ a l c, v = .slice a l c) : ∃ l, VBools w v l := by
  obtain ⟨a, cap, xs, rfl, hl, hs⟩ := view_slice v_und36 v_cells4 (by omega) v_bytes4 EBool (fun n cs d ps h _ => by
    obtain ⟨b, h, _⟩ := DataW.trod_bool v_und4 h
    exact ⟨b, h⟩) h hz hv
  exact ⟨xs, a, cap, rfl, by omega, hs⟩

/-- a deed -/
structure Deed where
  k : Int
  i : Int
  n : Int
  d : List UInt8
deriving Inhabited
theorem v_und3 : Try.prog.underlying 3 = some (.int .i64) := by kernel_rfl
theorem v_und45 : Try.prog.underlying 45 = some (.slice 47) := by kernel_rfl
theorem v_und47 : Try.prog.underlying 47 = some (.struct (Try.prog.fieldsOf 47)) := by kernel_rfl
theorem v_f47 : (Try.prog.fieldsOf 47).toList.map (fun f => (f.type, f.offset)) = [(3, 0), (3, 1), (3, 2), (27, 3)] := by kernel_rfl
theorem v_cells47 : Try.prog.cellsOf 47 = 4 := by kernel_rfl
theorem v_bytes47 : Try.prog.bytesOf 47 = 48 := by kernel_rfl
theorem v_cells3 : Try.prog.cellsOf 3 = 1 := by kernel_rfl
def In64 (n : Int) : Prop := -9223372036854775808 ≤ n ∧ n ≤ 9223372036854775807
theorem in64 {n : Int} (h : (Lit.int .i64 n).wf = true) : In64 n := by
  simpa [Lit.wf, IntKind.min, IntKind.max, IntKind.signed, IntKind.bits, In64] using h
def EDeed (w : World) (cs : List Value) (o : Deed) : Prop := ∃ v, cs = [.int .i64 o.k, .int .i64 o.i, .int .i64 o.n, v] ∧ VBytes w v o.d ∧ In64 o.k ∧ In64 o.i ∧ In64 o.n
theorem field_of {fs : List Field} {xs : List (TypeId × Nat)} (h : fs.map (fun f => (f.type, f.offset)) = xs) (j : Nat) {t : TypeId} {o : Nat} (hj : xs[j]? = some (t, o)) : ∃ f, fs[j]? = some f ∧ f.type = t ∧ f.offset = o := by
  subst h
  rw [List.getElem?_map] at hj
  cases hf : fs[j]? with
  | none => rw [hf] at hj; cases hj
  | some f => rw [hf] at hj; simp at hj; exact ⟨f, rfl, hj.1, hj.2⟩
section
variable {H : Type} {enc : TypeId × Value → H} {w : World}
theorem trod_int64 {n : Nat} {cs : List Value} {x : DataW H × List MemPlace} (h : Rdg enc w n 3 cs = some x) : ∃ z, cs = [.int .i64 z] ∧ In64 z := by
  obtain ⟨z, rfl, _, hw⟩ := DataW.trod_int v_und3 h
  exact ⟨z, rfl, in64 hw⟩
set_option maxRecDepth 100000 in
theorem trod_deed (n : Nat) (cs : List Value) (d : DataW H) (ps : List MemPlace) (h : Rdg enc w n 47 cs = some (d, ps)) (hz : Small 47 d) : ∃ x, EDeed w cs x := by
  obtain ⟨xs, m, _, hx, hl, hsz, hf⟩ := DataW.trod_struct v_und47 h
  rw [v_cells47] at hl
  obtain ⟨f0, e0, t0, o0⟩ := field_of v_f47 0 rfl
  obtain ⟨f1, e1, t1, o1⟩ := field_of v_f47 1 rfl
  obtain ⟨f2, e2, t2, o2⟩ := field_of v_f47 2 rfl
  obtain ⟨f3, e3, t3, o3⟩ := field_of v_f47 3 rfl
  have hs4 : xs.length = 4 := by
    have := congrArg List.length v_f47
    rw [hsz]; simpa using this
  match xs, hs4, cs, hl with
  | [x0, x1, x2, x3], _, [c0, c1, c2, c3], _ =>
    have g0 := hf 0 f0 (by simpa using e0)
    have g1 := hf 1 f1 (by simpa using e1)
    have g2 := hf 2 f2 (by simpa using e2)
    have g3 := hf 3 f3 (by simpa using e3)
    rw [t0, o0, v_cells3] at g0
    rw [t1, o1, v_cells3] at g1
    rw [t2, o2, v_cells3] at g2
    rw [t3, o3, v_cells27] at g3
    simp at g0 g1 g2 g3
    obtain ⟨z0, h0, b0⟩ := trod_int64 g0
    obtain ⟨z1, h1, b1⟩ := trod_int64 g1
    obtain ⟨z2, h2, b2⟩ := trod_int64 g2
    have hd : d = .agg [x0.1, x1.1, x2.1, x3.1] := by
      simp at hx; exact hx.1
    have hsm : Small 27 x3.1 := by
      intro y hy
      refine hz y ?_
      subst hd
      simp only [DataW.weights, v_und47]
      refine DataW.weights_mem_each (j := 3) ?_ rfl y hy
      rw [List.getElem?_map, e3, Option.map_some, t3]
    obtain ⟨l, v, h3, hv⟩ := trod_bytes _ _ x3.1 x3.2 g3 hsm
    refine ⟨⟨z0, z1, z2, l⟩, v, ?_, hv, b0, b1, b2⟩
    simp at h0 h1 h2 h3
    simp [h0, h1, h2, h3]
end
/-- a script of deeds -/
def VDeeds (w : World) (v : Value) (l : List Deed) : Prop := ∃ a cap, v = .slice a l.length cap ∧ l.length * 48 ≤ 140737488351232 ∧ Seen w 4 (EDeed w) a l
theorem view_deeds {H : Type} {enc : TypeId × Value → H} {w : World} {n : Nat} {v : Value} {d : DataW H} {ps : List MemPlace} (h : Rdg enc w n 45 v.cells.toList = some (d, ps)) (hz : Small 45 d)
    (hv : ∃ a l c, v = .slice a l c) : ∃ l, VDeeds w v l := by
  obtain ⟨a, cap, xs, rfl, hl, hs⟩ := view_slice v_und45 v_cells47 (by omega) v_bytes47 (EDeed w) trod_deed h hz hv
  exact ⟨xs, a, cap, rfl, hl, hs⟩
/-- what a script says, in whatever later world -/
theorem VDeeds.at {w : World} {a : Option Addr} {ls : List Deed} (h : Seen w 4 (EDeed w) a ls) {w' : World} (hm : Mod None w w') {k : Nat} (hk : k < ls.length) :
    ∃ b o da dc, a = some ⟨b, o, none⟩ ∧ w'.cell? ⟨b, o + k * 4, none⟩ = some (.int .i64 ls[k].k) ∧ w'.cell? ⟨b, o + k * 4 + 1, none⟩ = some (.int .i64 ls[k].i) ∧ w'.cell? ⟨b, o + k * 4 + 2, none⟩ = some (.int .i64 ls[k].n) ∧
      w'.cell? ⟨b, o + k * 4 + 3, none⟩ = some (.slice da ls[k].d.length dc) ∧ Rd w' da ls[k].d ∧ (ls[k].d = [] ∨ ∃ b o, da = some ⟨b, o, none⟩ ∧ b < w.heap.size) ∧ ls[k].d.length ≤ 140737488351232 ∧ In64 ls[k].k ∧ In64 ls[k].i ∧ In64 ls[k].n := by
  rcases h with rfl | ⟨b, o, rfl, hx⟩
  · simp at hk
  · obtain ⟨cs, hl, ⟨v, hcs, ⟨da, dc, rfl, hlen, hrd⟩, b1, b2, b3⟩, hc⟩ := hx k hk
    have get : ∀ j v, cs[j]? = some v → j < 4 → w'.cell? ⟨b, o + k * 4 + j, none⟩ = some v := fun j v hj hlt => by
      have h1 := hc j hlt
      rw [hj, ← Nat.add_assoc] at h1
      rw [hm.cell (p := ⟨b, o + k * 4 + j, none⟩) (World.block_lt_of_cell? w _ h1) (fun h => h)]; exact h1
    refine ⟨b, o, da, dc, rfl, get 0 _ (by rw [hcs]; rfl) (by omega), get 1 _ (by rw [hcs]; rfl) (by omega), get 2 _ (by rw [hcs]; rfl) (by omega), get 3 _ (by rw [hcs]; rfl) (by omega), hm.rd hrd (fun _ _ h => h), ?_, hlen, b1, b2, b3⟩
    rcases hrd with h | ⟨b', o', rfl, hc'⟩
    · left; simpa using h
    · by_cases h0 : ls[k].d.map B = []
      · left; simpa using h0
      · right
        exact ⟨b', o', rfl, RdV.lt (.inr ⟨b', o', rfl, hc'⟩) h0⟩
theorem VBools.at {w : World} {a : Option Addr} {ls : List Bool} (h : Seen w 1 EBool a ls) {w' : World} (hm : Mod None w w') {k : Nat} (hk : k < ls.length) :
    ∃ b o, a = some ⟨b, o, none⟩ ∧ w'.cell? ⟨b, o + k, none⟩ = some (.bool ls[k]) := by
  rcases h with rfl | ⟨b, o, rfl, hx⟩
  · simp at hk
  · obtain ⟨cs, hl, he, hc⟩ := hx k hk
    have h1 := hc 0 (by omega)
    rw [he, Nat.mul_one] at h1
    have h2 : w.cell? ⟨b, o + k, none⟩ = some (.bool ls[k]) := h1
    refine ⟨b, o, rfl, ?_⟩
    rw [hm.cell (p := ⟨b, o + k, none⟩) (World.block_lt_of_cell? w _ h2) (fun h => h)]; exact h2
end Go.Proofs.Ytdhhpnfdnoaihaa

/-! E1 -/
/- Maps of texts by numbers. -/
namespace Go.Proofs.Ytdhhpnfdnoaihaa
open Go.RowKit

theorem m_und110 : Try.prog.underlying 110 = some (.map 3 9) := by kernel_rfl
theorem m_zero9 (w : World) : (zeroValue 9).run Try.prog w = .ok (Str []) w := by kernel_rfl
theorem keyed3 : Maps.Keyed Try.prog 3 := Maps.int_keyed v_und3
theorem wf64 {i : Int} (h : In64 i) : (Lit.int .i64 i).wf = true := by
  simpa [Lit.wf, IntKind.min, IntKind.max, IntKind.signed, IntKind.bits, In64] using h
/-- the map at b tells f, of at most n keys -/
def IsMap (w : World) (b n : Nat) (f : Int → List UInt8) : Prop :=
  ∃ D : DataW Unit, w.ownsMap Try.prog 3 (plainElem Try.prog 9) b n D ∧ ∀ i, In64 i → D.atKey (.int .i64 i) (.lit (.string [])) = .lit (.string (f i))
theorem ismap_made (w : World) : IsMap (w.alloc (.map #[] 0)) w.heap.size 0 (fun _ => []) :=
  ⟨_, World.ownsMap_made w _ _ _, fun _ _ => rfl⟩
theorem m_zeroR : plainElem (H := Unit) Try.prog 9 (Str []) = some (.lit (.string []), []) := by
  have h : (⟨[].toArray⟩ : ByteArray).size ≤ maxLen := Nat.zero_le _
  exact plainElem_string und9 h
section
variable {w w' : World} {b n : Nat} {f : Int → List UInt8}
set_option maxRecDepth 100000 in
theorem IsMap.look (h : IsMap w b n f) (i : Int) (hi : In64 i) : (Instr.lookup 110 (.map (some b)) (.int .i64 i) false).run Try.prog w = .ok (Str (f i)) w := by
  obtain ⟨D, hD, hf⟩ := h
  obtain ⟨v, ps, hrun, hv⟩ := hD.lookup keyed3 m_und110 (m_zero9 w) m_zeroR (Maps.keyOf_int_mk v_und3 (wf64 hi))
  obtain ⟨s, rfl, hs, _⟩ := plainElem_string_inv und9 hv
  rw [hrun]
  have h1 : D.atKey (.int .i64 i) (.lit (.string [])) = .lit (.string s.data.toList) := congrArg Prod.fst hs
  rw [hf i hi] at h1
  have h2 : f i = s.data.toList := by injection h1 with h1; injection h1
  rw [h2]
  unfold Str
  obtain ⟨⟨l⟩⟩ := s
  rfl
theorem IsMap.put (h : IsMap w b n f) (hn : n < maxLen) (i : Int) (hi : In64 i) (l : List UInt8) (hl : l.length ≤ 64) :
    ∃ w', (Instr.mapUpdate 110 (.map (some b)) (.int .i64 i) (Str l)).run Try.prog w = .ok () w' ∧ IsMap w' b (n + 1) (fun j => if j = i then l else f j) ∧ Mod (fun k => k = b) w w' := by
  obtain ⟨D, hD, hf⟩ := h
  have hl' : (⟨l.toArray⟩ : ByteArray).size ≤ maxLen := by
    have : (⟨l.toArray⟩ : ByteArray).size = l.length := rfl
    rw [this]; unfold maxLen; omega
  obtain ⟨w', hrun, hD', hg⟩ := hD.update keyed3 m_und110 hn (Maps.keyOf_int_mk v_und3 (wf64 hi)) (plainElem_string und9 hl')
  refine ⟨w', hrun, ⟨_, hD', fun j hj => ?_⟩, grown_mod hg (fun k hk _ => by cases hk; rfl)⟩
  have hmap : Maps.IsMap D := by obtain ⟨es, clock, _, _, _, rfl⟩ := hD; exact ⟨_, rfl⟩
  by_cases hji : j = i
  · subst hji
    rw [Maps.atKey_put_same hmap (by trivial)]
    simp
  · show _ = DataW.lit (.string (if j = i then l else f j))
    rw [if_neg hji, Maps.atKey_put_other (by simpa using hji), hf j hj]
theorem IsMap.keep {T : Nat → Prop} (h : IsMap w b n f) (hm : Mod T w w') (hT : ¬ T b) : IsMap w' b n f := by
  obtain ⟨D, ⟨es, clock, hb, r⟩, hf⟩ := h
  exact ⟨D, ⟨es, clock, by rw [hm.block b (Array.getElem?_eq_some_iff.1 hb).1 hT]; exact hb, r⟩, hf⟩
theorem IsMap.lt (h : IsMap w b n f) : b < w.heap.size := by
  obtain ⟨D, hD, _⟩ := h; exact hD.lt
theorem IsMap.ne (h : IsMap w b n f) {p : Nat} {t : TypeId} {cs : List Value} (hp : Blk w p t cs) : p ≠ b := by
  rintro rfl
  obtain ⟨D, ⟨es, clock, hb, _⟩, _⟩ := h
  unfold Blk at hp
  rw [hp] at hb; cases hb
end
end Go.Proofs.Ytdhhpnfdnoaihaa

/-! E2 -/
/- The document's disk in memory, and the contracts of its small methods. -/
namespace Go.Proofs.Ytdhhpnfdnoaihaa
open Go.RowKit

def bufC (ws : List (Nat × List UInt8)) (qs : List Nat) : List Value := (ws.zip qs).flatMap fun x => [.int .i64 (x.1.1 : Int), .slice (some ⟨x.2, 0, none⟩) 64 64]
structure RefAt (w : World) (S : Nat → Prop) (p b n : Nat) (f : Int → List UInt8) (qs : List Nat) (bv : Value) (st : DSt) : Prop where
  obj : Blk w p 113 [.int .i64 (st.last.length : Int), .map (some b), bv, .int .i64 st.armed, .bool st.down]
  own : S p
  ownb : S b
  map : IsMap w b n f
  last : ∀ (i : Nat) (s : List UInt8), st.last[i]? = some s → pad64 (f (i : Int)) = s ∧ (f (i : Int)).length ≤ 64
  buf : OwnR w S 115 2 bv st.waits.length (bufC st.waits qs)
  dat : ∀ (k : Nat) (x : Nat × List UInt8) (q : Nat), st.waits[k]? = some x → qs[k]? = some q → S q ∧ Blk w q 5 (x.2.map B)
  len : qs.length = st.waits.length
  ok : st.Ok
  lt : ∀ k, S k → k < w.heap.size
def IsRef (w : World) (S : Nat → Prop) (p N : Nat) (st : DSt) : Prop := ∃ b n f qs bv, RefAt w S p b n f qs bv st ∧ n + st.waits.length ≤ N

theorem Blk.types {w : World} {p q : Nat} {t t' : TypeId} {cs cs' : List Value} (h : Blk w p t cs) (h' : Blk w q t' cs') (ht : t ≠ t') : p ≠ q := by
  rintro rfl; exact ht (h.uniq h').1
theorem OwnR.far {w : World} {S : Nat → Prop} {e size : Nat} {v : Value} {n : Nat} {xs : List Value} (h : OwnR w S e size v n xs) {p : Nat} {t : TypeId} {cs : List Value} (hp : Blk w p t cs) (ht : e ≠ t) : ∀ g, v.ownBlock = some g → g ≠ p := by
  rintro g hg rfl
  rcases h.1.2 with ⟨rfl, _⟩ | ⟨g', cap, cur, rfl, _, hb, _⟩
  · cases hg
  · obtain rfl : g' = g := by simpa [Value.ownBlock] using hg
    unfold Blk at hp
    rw [hp] at hb
    cases hb; exact ht rfl
theorem OwnR.map {w : World} {S : Nat → Prop} {e size : Nat} {v : Value} {n : Nat} {xs : List Value} (h : OwnR w S e size v n xs) {b m : Nat} {f : Int → List UInt8} (hp : IsMap w b m f) : ∀ g, v.ownBlock = some g → g ≠ b := by
  rintro g hg rfl
  rcases h.1.2 with ⟨rfl, _⟩ | ⟨g', cap, cur, rfl, _, hb, _⟩
  · cases hg
  · obtain rfl : g' = g := by simpa [Value.ownBlock] using hg
    obtain ⟨D, ⟨es, clock, hb', _⟩, _⟩ := hp
    rw [hb] at hb'; cases hb'
section
variable {w w' : World} {S : Nat → Prop} {p b n : Nat} {f : Int → List UInt8} {qs : List Nat} {bv : Value} {st : DSt}
theorem RefAt.cells (h : RefAt w S p b n f qs bv st) : w.cell? ⟨p, 0, none⟩ = some (.int .i64 (st.last.length : Int)) ∧ w.cell? ⟨p, 1, none⟩ = some (.map (some b)) ∧ w.cell? ⟨p, 2, none⟩ = some bv ∧ w.cell? ⟨p, 3, none⟩ = some (.int .i64 st.armed) ∧ w.cell? ⟨p, 4, none⟩ = some (.bool st.down) :=
  ⟨h.obj.is rfl, h.obj.is rfl, h.obj.is rfl, h.obj.is rfl, h.obj.is rfl⟩
theorem RefAt.keep {T S' : Nat → Prop} (h : RefAt w S p b n f qs bv st) (hm : Mod T w w') (hT : ∀ k, S k → ¬ T k) (hS : ∀ k, S k → S' k) (hlt : ∀ k, S' k → k < w'.heap.size) : RefAt w' S' p b n f qs bv st where
  obj := hm.blk h.obj (hT _ h.own)
  own := hS _ h.own
  ownb := hS _ h.ownb
  map := h.map.keep hm (hT _ h.ownb)
  last := h.last
  buf := h.buf.kept hm (fun g hg => hT _ (h.buf.2 g hg)) hS
  dat := fun k x q hx hq => ⟨hS _ (h.dat k x q hx hq).1, hm.blk (h.dat k x q hx hq).2 (hT _ (h.dat k x q hx hq).1)⟩
  len := h.len
  ok := h.ok
  lt := hlt
/-- a store into the object's own cells -/
theorem RefAt.obj' (h : RefAt w S p b n f qs bv st) (hm : Mod (fun k => k = p) w w') {a : Int} {d : Bool}
    (hb : Blk w' p 113 [.int .i64 (st.last.length : Int), .map (some b), bv, .int .i64 a, .bool d]) (ha : -1 ≤ a ∧ a ≤ 9223372036854775807) : RefAt w' S p b n f qs bv { st with armed := a, down := d } where
  obj := hb
  own := h.own
  ownb := h.ownb
  map := h.map.keep hm (fun e => h.map.ne h.obj e.symm)
  last := h.last
  buf := h.buf.kept hm (fun g hg e => h.buf.far h.obj (by decide) g hg e) (fun _ h => h)
  dat := fun k x q hx hq => ⟨(h.dat k x q hx hq).1, hm.blk (h.dat k x q hx hq).2 (Blk.types (h.dat k x q hx hq).2 h.obj (by decide))⟩
  len := h.len
  ok := ⟨h.ok.one, h.ok.most, h.ok.sec, h.ok.wait, ha⟩
  lt := fun k hk => Nat.lt_of_lt_of_le (h.lt k hk) hm.size
/-- the buffer is struck -/
theorem RefAt.struck (h : RefAt w S p b n f qs bv st) (hm : Mod (fun k => k = p) w w') {a : Int} {d : Bool}
    (hb : Blk w' p 113 [.int .i64 (st.last.length : Int), .map (some b), .slice none 0 0, .int .i64 a, .bool d]) (ha : -1 ≤ a ∧ a ≤ 9223372036854775807) : RefAt w' S p b n f [] (.slice none 0 0) { last := st.last, waits := [], armed := a, down := d } where
  obj := hb
  own := h.own
  ownb := h.ownb
  map := h.map.keep hm (fun e => h.map.ne h.obj e.symm)
  last := h.last
  buf := ⟨World.ownsRow_nil _ _ _ _, fun g hg => by cases hg⟩
  dat := fun k x q hx _ => by simp at hx
  len := rfl
  ok := ⟨h.ok.one, h.ok.most, h.ok.sec, fun x hx => by simp at hx, ha⟩
  lt := fun k hk => Nat.lt_of_lt_of_le (h.lt k hk) hm.size
end
theorem IsRef.keep {w w' : World} {S T : Nat → Prop} {p N : Nat} {st : DSt} (h : IsRef w S p N st) (hm : Mod T w w') (hT : ∀ k, S k → ¬ T k) : IsRef w' S p N st := by
  obtain ⟨b, n, f, qs, bv, h, hn⟩ := h
  exact ⟨b, n, f, qs, bv, h.keep hm hT (fun _ h => h) (fun k hk => Nat.lt_of_lt_of_le (h.lt k hk) hm.size), hn⟩
def RefPost (v : Value) (S : Nat → Prop) (p N : Nat) (st : DSt) (T : Nat → Prop) (w : World) (e : Ending) (w' : World) : Prop :=
  e = .returned v ∧ IsRef w' S p N st ∧ Mod T w w'

def RNewPost (n : Nat) (w : World) (e : Ending) (w' : World) : Prop :=
  ∃ p S, e = .returned (.pointer (some ⟨p, 0, none⟩)) ∧ IsRef w' S p 0 (DSt.new n) ∧ Mod None w w' ∧ ∀ k, S k → w.heap.size ≤ k
theorem rnew_end (w : World) (n : Nat) (hn : 1 ≤ n ∧ n ≤ 65536) (C : Array Value) (hC : C = #[.int .i64 (n : Int), .map (some w.heap.size), .slice none 0 0, .int .i64 (-1), .bool false]) (q : Nat) (hq : q = w.heap.size + 1) :
    RNewPost n w (.returned (.pointer (some ⟨q, 0, none⟩))) ((w.alloc (.map #[] 0)).alloc (.cells C 113)) := by
  subst hC hq
  have hs : (w.alloc (.map #[] 0)).heap.size = w.heap.size + 1 := by simp
  have hb := Blk.new (w.alloc (.map #[] 0)) 113 #[.int .i64 (n : Int), .map (some w.heap.size), .slice none 0 0, .int .i64 (-1), .bool false]
  rw [hs] at hb
  refine ⟨_, fun k => w.heap.size ≤ k ∧ k < w.heap.size + 2, rfl, ⟨w.heap.size, 0, fun _ => [], [], .slice none 0 0, ?_, by simp [DSt.new]⟩, ((Mod.refl _ _).alloc _).alloc _, fun k hk => hk.1⟩
  refine ⟨?_, ⟨by omega, by omega⟩, ⟨by omega, by omega⟩, (ismap_made w).keep ((Mod.refl None _).alloc _) (fun h => h), fun i s hs => ?_, ⟨World.ownsRow_nil _ _ _ _, fun g hg => by cases hg⟩, fun k x q hx _ => by simp [DSt.new] at hx, rfl, DSt.new_ok n hn.1 hn.2, fun k hk => by simp; omega⟩
  · simpa [DSt.new] using hb
  · have : s = zeros64 := by
      simp only [DSt.new, List.getElem?_replicate] at hs
      split at hs
      · simpa using hs.symm
      · cases hs
    subst this
    exact ⟨by decide, by simp⟩
set_option maxRecDepth 100000 in
set_option maxHeartbeats 400000 in
theorem rnew_any (w : World) (s : Int) (n : Nat) (hn : (n : Int) = min (max s 1) 65536) : Calls Try.prog 37 #[.int .i64 s] w (RNewPost n w) := by
  have h1 : 1 ≤ n ∧ n ≤ 65536 := by omega
  have HE := hid (rnew_end w n h1)
  have hmm := @run_makeMap Try.prog
  by_cases ha : s < 1
  · obtain rfl : n = 1 := by omega
    clear hn h1
    go_enter Try.func37, Try.ntmps37
    go_wp2
    go_ret
    exact HE.out _ rfl _ (by simp)
  · by_cases hb : 65536 < s
    · obtain rfl : n = 65536 := by omega
      clear hn h1
      go_enter Try.func37, Try.ntmps37
      go_wp2
      go_ret
      exact HE.out _ rfl _ (by simp)
    · obtain rfl : s = n := by omega
      clear hn h1
      go_enter Try.func37, Try.ntmps37
      go_wp2
      go_ret
      exact HE.out _ rfl _ (by simp)

set_option maxHeartbeats 400000 in
theorem change_any (w : World) (S : Nat → Prop) (p N : Nat) (st : DSt) (h : IsRef w S p N st) (hd : st.down = false) :
    Calls Try.prog 70 #[.pointer (some ⟨p, 0, none⟩)] w (RefPost (.tuple #[]) S p N st.changed (fun k => k = p) w) := by
  obtain ⟨b, n, f, qs, bv, h, hn⟩ := h
  obtain ⟨_, _, _, h3, h4⟩ := h.cells
  have f3 := h.obj.free 3
  have f4 := h.obj.free 4
  have H := hid h
  have HN := hid hn
  have harm := h.ok.arm
  rw [hd] at h4
  have HD := hid hd
  clear h hn hd
  obtain ⟨arm, ha⟩ : ∃ arm, arm = st.armed := ⟨_, rfl⟩
  rw [← ha] at h3 harm
  have HA := hid ha
  clear ha
  have m1 : ∀ v, Mod (fun k => k = p) w (w.setCell ⟨p, 3, none⟩ v) := fun v => Mod.set (S := fun k => k = p) (Mod.refl _ _) (.inl rfl) _
  have M1 := hid m1
  have M2 := hid (fun v u => Mod.set (S := fun k => k = p) (m1 v) (p := ⟨p, 4, none⟩) (.inl rfl) u)
  clear m1
  by_cases hlt : 0 < arm
  · by_cases h1 : arm = 1
    · subst h1
      have HS := hid (show st.changed = { st with armed := 0, down := true } by unfold DSt.changed; rw [← HA.out, if_pos (by decide)]; rfl)
      clear hlt
      go_enter Try.func70, Try.ntmps70
      go_wp2
      go_end0
      refine ⟨rfl, ?_, M2.out _ _⟩
      rw [HS.out]
      exact ⟨b, n, f, qs, bv, H.out.obj' (M2.out _ _) ((H.out.obj.set 3 _).set 4 _) (by omega), HN.out⟩
    · have HS := hid (show st.changed = { st with armed := arm - 1, down := false } by
        unfold DSt.changed; rw [← HA.out, if_pos hlt]
        have : (arm - 1 == 0) = false := by simp; omega
        rw [this])
      have h0 : ¬ arm - 1 = 0 := by omega
      go_enter Try.func70, Try.ntmps70
      go_wp2
      go_end0
      refine ⟨rfl, ?_, M1.out _⟩
      rw [HS.out]
      have hb := H.out.obj.set 3 (.int .i64 (arm - 1))
      rw [HD.out] at hb
      exact ⟨b, n, f, qs, bv, H.out.obj' (M1.out _) hb (by omega), HN.out⟩
  · have HS := hid (show st.changed = st by unfold DSt.changed; rw [← HA.out, if_neg hlt])
    go_enter Try.func70, Try.ntmps70
    go_wp2
    go_end0
    exact ⟨rfl, by rw [HS.out]; exact ⟨b, n, f, qs, bv, H.out, HN.out⟩, Mod.refl _ _⟩

set_option maxHeartbeats 400000 in
theorem rarm_any (w : World) (S : Nat → Prop) (p N : Nat) (st : DSt) (h : IsRef w S p N st) (m : Int) (hm : m ≤ 9223372036854775807) :
    Calls Try.prog 40 #[.pointer (some ⟨p, 0, none⟩), .int .i64 m] w (RefPost (.tuple #[]) S p N (st.arm' m) (fun k => k = p) w) := by
  obtain ⟨b, n, f, qs, bv, h, hn⟩ := h
  obtain ⟨_, _, _, h3, h4⟩ := h.cells
  have f3 := h.obj.free 3
  have f4 := h.obj.free 4
  have H := hid h
  have HN := hid hn
  clear h hn
  have m1 : ∀ v, Mod (fun k => k = p) w (w.setCell ⟨p, 3, none⟩ v) := fun v => Mod.set (S := fun k => k = p) (Mod.refl _ _) (.inl rfl) _
  have M1 := hid m1
  have M2 := hid (fun v u => Mod.set (S := fun k => k = p) (m1 v) (p := ⟨p, 4, none⟩) (.inl rfl) u)
  clear m1
  by_cases hd : st.down = true
  · have HS := hid (show st.arm' m = st by unfold DSt.arm'; rw [if_pos hd])
    rw [hd] at h4
    clear hd hm
    go_enter Try.func40, Try.ntmps40
    go_wp2
    go_end0
    exact ⟨rfl, by rw [HS.out]; exact ⟨b, n, f, qs, bv, H.out, HN.out⟩, Mod.refl _ _⟩
  · rw [Bool.not_eq_true] at hd
    rw [hd] at h4
    have HD := hid hd
    have ha : st.arm' m = { st with armed := max m (-1), down := m == 0 } := by unfold DSt.arm'; rw [if_neg (by simp [hd])]
    clear hd
    by_cases hneg : m < 0
    · have HS := hid (show st.arm' m = { st with armed := -1, down := false } by
        rw [ha, show max m (-1) = -1 by omega, show (m == 0) = false by simp; omega])
      clear ha hm
      go_enter Try.func40, Try.ntmps40
      go_wp2
      go_end0
      refine ⟨rfl, ?_, M1.out _⟩
      rw [HS.out]
      have hb := H.out.obj.set 3 (.int .i64 (-1))
      rw [HD.out] at hb
      exact ⟨b, n, f, qs, bv, H.out.obj' (M1.out _) hb (by omega), HN.out⟩
    · by_cases h0 : m = 0
      · subst h0
        have HS := hid (show st.arm' 0 = { st with armed := 0, down := true } by rw [ha]; rfl)
        clear ha hm hneg
        go_enter Try.func40, Try.ntmps40
        go_wp2
        go_end0
        refine ⟨rfl, ?_, M2.out _ _⟩
        rw [HS.out]
        exact ⟨b, n, f, qs, bv, H.out.obj' (M2.out _ _) ((H.out.obj.set 3 _).set 4 _) (by omega), HN.out⟩
      · have HS := hid (show st.arm' m = { st with armed := m, down := false } by
          rw [ha, show max m (-1) = m by omega, show (m == 0) = false by simp; omega])
        have HB := hid (show -1 ≤ m ∧ m ≤ 9223372036854775807 by omega)
        clear ha hm
        go_enter Try.func40, Try.ntmps40
        go_wp2
        go_end0
        refine ⟨rfl, ?_, M1.out _⟩
        rw [HS.out]
        have hb := H.out.obj.set 3 (.int .i64 m)
        rw [HD.out] at hb
        exact ⟨b, n, f, qs, bv, H.out.obj' (M1.out _) hb HB.out, HN.out⟩
end Go.Proofs.Ytdhhpnfdnoaihaa

/-! D9 -/
/- awake of layer 3. -/
namespace Go.Proofs.Ytdhhpnfdnoaihaa
open Go.RowKit

theorem eq_lit {S : Nat → Prop} {l m : List UInt8} (n : Nat) (h : l.take 2 = m) (hm : n = m.length) {w : World} {a : Option Addr} (hr : Safe S w a l) (c : Nat) : (convert 27 9 (.slice a n c)).run Try.prog w = .ok (Str m) w := by
  subst hm h
  exact str_rd (hr.1.take 2) _ c rfl
set_option maxRecDepth 100000 in
set_option maxHeartbeats 1600000 in
theorem awake3_any (w : World) : Calls Try.prog 27 #[] w fun e w' => e = .returned (.bool true) ∧ Mod None w w' := by
  have kc := bytes_const
  go_enter Try.func27, Try.ntmps27
  go_wp2_with fail
  refine (live_new w w (Mod.refl _ _) 2 2 (by omega)).mono ?_
  rintro e w1 ⟨p, S, rfl, hl, _, _⟩
  have HL : Hid (Live w w1 S p aw0) := hid hl
  clear hl
  go_wp2_with fail
  refine (live_write (HL.out.alloc _) 0 _ _ _ [97, 98] rfl (rd_lit _ _ _ rfl _ _ rfl) (by decide) aww.1).mono ?_
  rintro e w2 ⟨S2, rfl, hl, _⟩
  rw [aw0w]
  have HL2 : Hid (Live w w2 S2 p aw1) := hid hl
  clear hl HL
  go_wp2_with fail
  refine (live_write (HL2.out.alloc _) 0 _ _ _ [99, 100] rfl (rd_lit _ _ _ rfl _ _ rfl) (by decide) aww.2.1).mono ?_
  rintro e w3 ⟨S3, rfl, hl, _⟩
  rw [aw1w]
  have HL3 : Hid (Live w w3 S3 p aw2) := hid hl
  clear hl HL2
  go_wp2_with fail
  refine (live_read HL3.out 0).mono ?_
  rintro e w4 ⟨a1, rfl, _, hs, hl, _⟩
  rw [aw2r.1, aw2r.2.1]
  have HS1 := hid hs
  have HL4 : Hid (Live w w4 S3 p aw2) := hid hl
  clear hl hs HL3
  go_wp2_with fail
  refine (live_crash HL4.out 1 1).mono ?_
  rintro e w5 ⟨S5, rfl, hl, ht⟩
  have HS2 := hid (HS1.out.turn ht)
  have HL5 : Hid (Live w w5 S5 p aw3) := hid hl
  clear hl ht HS1 HL4
  go_wp2_with fail
  refine (live_read HL5.out 0).mono ?_
  rintro e w6 ⟨a2, rfl, _, hs, hl, hm⟩
  rw [aw3r.1, aw3r.2.1]
  have HS3 := hid (HS2.out.turn (.same (hm.mono (fun _ _ h => h.elim))))
  have HS4 := hid hs
  have HL6 : Hid (Live w w6 S5 p aw3) := hid hl
  clear hl hs hm HS2 HL5
  go_wp2_with fail
  refine (live_arm HL6.out 1 (by omega)).mono ?_
  rintro e w7 ⟨S7, rfl, hl, ht⟩
  have HS5 := hid (HS3.out.turn ht)
  have HS6 := hid (HS4.out.turn ht)
  have HL7 : Hid (Live w w7 S7 p aw4) := hid hl
  clear hl ht HS3 HS4 HL6
  go_wp2_with fail
  refine (live_write HL7.out 1 _ _ _ [] rfl (.inl rfl) (by decide) aww.2.2).mono ?_
  rintro e w8 ⟨S8, rfl, hl, ht⟩
  rw [aw4w]
  have HS7 := hid (HS5.out.turn ht)
  have HS8 := hid (HS6.out.turn ht)
  have HL8 : Hid (Live w w8 S8 p aw5) := hid hl
  clear hl ht HS5 HS6 HL7
  go_wp2_with fail
  refine (live_read HL8.out 0).mono ?_
  rintro e w9 ⟨a3, rfl, _, _, hl, hm⟩
  rw [aw5r]
  have hc1 : (convert 27 9 (.slice a1 2 64)).run Try.prog w9 = .ok (.string { data := #[99, 100] }) w9 := eq_lit 2 aw2r.2.2 rfl (HS7.out.turn (.same (hm.mono (fun _ _ h => h.elim)))) _
  have hc2 : (convert 27 9 (.slice a2 2 64)).run Try.prog w9 = .ok (.string { data := #[99, 98] }) w9 := eq_lit 2 aw3r.2.2 rfl (HS8.out.turn (.same (hm.mono (fun _ _ h => h.elim)))) _
  have HL9 : Hid (Live w w9 S8 p aw5) := hid hl
  clear hl hm HS7 HS8 HL8
  go_wp2_with fail
  refine (live_down HL9.out).mono ?_
  rintro e w10 ⟨rfl, rfl⟩
  rw [aw5d]
  go_wp2_with fail
  go_ret
  exact ⟨rfl, HL9.out.2.1⟩
end Go.Proofs.Ytdhhpnfdnoaihaa

/-! D10 -/
/- Whole of layer 3's document. -/
namespace Go.Proofs.Ytdhhpnfdnoaihaa
open Go.RowKit

theorem d_info5 : (Try.prog.info? 5).map (fun i => (i.zero, i.size, i.bytes)) = some (some (.int .u8 0), 1, 1) := by kernel_rfl
theorem made_bytes (n : Nat) : (madeCells (Value.int .u8 0).cells (n * 1)).toList = (List.replicate n (0 : UInt8)).map B := by
  unfold madeCells
  rw [List.map_replicate]
  apply List.ext_getElem?
  intro i
  rw [Nat.mul_one]
  by_cases hi : i < n
  · rw [List.getElem?_replicate, if_pos hi]
    simp [hi, Value.cells, Nat.mod_one]; rfl
  · rw [List.getElem?_eq_none (by simp; omega), List.getElem?_eq_none (by simp; omega)]
theorem made_blk {w' : World} {b n : Nat} {l : List UInt8} (h : w'.ownsRow 0 5 1 (.slice (some ⟨b, 0, none⟩) n n) n (l.map B)) : Blk w' b 5 (l.map B) := by
  obtain ⟨h0, h1⟩ := h
  rcases h1 with ⟨h1, _⟩ | ⟨g, cap, cur, he, _, hg, h1, h2, h3, h4⟩
  · cases h1
  · obtain ⟨rfl, rfl⟩ : b = g ∧ n = cap := by simpa using he
    unfold Blk
    rw [← h4, List.take_of_length_le (by rw [Array.length_toList, h3]; exact Nat.le_refl _)]; exact hg
theorem splice_pad' (d : List UInt8) (hd : d.length ≤ 64) : splice ((List.replicate 64 (0 : UInt8)).map B) 0 ((d.map B).take (Nat.min d.length 64)) = (pad64 d).map B := by
  have e : Nat.min d.length 64 = d.length := Nat.min_eq_left hd
  rw [e, List.take_of_length_le (by simp)]
  unfold splice pad64
  rw [List.take_zero, List.nil_append, List.map_append, List.length_map, Nat.zero_add, List.map_replicate, List.drop_replicate, List.map_replicate]
/-- new bytes -/
def Fresh (w w' : World) (a : Option Addr) (d : List UInt8) : Prop := ∃ b, a = some ⟨b, 0, none⟩ ∧ w.heap.size ≤ b ∧ Blk w' b 5 (d.map B)
theorem Fresh.rd {w w' : World} {a : Option Addr} {d : List UInt8} (h : Fresh w w' a d) : Rd w' a d := by
  obtain ⟨b, rfl, _, hb⟩ := h
  exact hb.rdv 0 (fun i _ => by rw [Nat.zero_add])
def WholePost (d : List UInt8) (w : World) (e : Ending) (w' : World) : Prop := ∃ a, e = .returned (.slice a 64 64) ∧ Fresh w w' a d ∧ Mod None w w'
set_option maxRecDepth 100000 in
set_option maxHeartbeats 800000 in
theorem whole_any (w : World) (a : Option Addr) (c : Nat) (d : List UInt8) (hr : Rd w a d) (hd : d.length ≤ 64) : Calls Try.prog 34 #[.slice a d.length c] w (WholePost (pad64 d) w) := by
  obtain ⟨i, hi, hz, hsz, hby⟩ := info_parts d_info5
  have HR := hid hr
  clear hr
  go_enter Try.func34, Try.ntmps34
  go_wp2_with (at_make; go_loud (refine wpList_make_full _ rfl (.const (.int .i64 64)) (.const (.int .i64 64)) 27 rfl 0 5 i (.int .u8 0) 1 und27 hi hz hsz .i64 .i64 _ _ 64 rfl rfl rfl rfl (by rw [hby]; omega) (by unfold maxLen; omega) (Nat.zero_le _) ?_); go_loud (intro w1 hown hgr; rw [made_bytes] at hown; have HB := hid (made_blk hown); have HM := hid (grown_mod (S := None) hgr (fun _ h => by cases h)); clear hown hgr); go_loud (have hcp := run_copy_blk (ty := 3) (off := 0) (dLen := 64) (dCap := 64) (c := c) HB.out (HM.out.rd HR.out (fun _ _ h => h)) (n := d.length) (by simp) (B_one d) (by simp only [List.length_map, List.length_replicate]; have : Nat.min d.length 64 = d.length := Nat.min_eq_left hd; omega); rw [splice_pad' d hd] at hcp))
  go_ret
  exact ⟨_, rfl, ⟨_, rfl, Nat.le_refl _, HB.out.put _⟩, HM.out.put (.inr (Nat.le_refl _)) _⟩
end Go.Proofs.Ytdhhpnfdnoaihaa

/-! E3 -/
/- The document's disk: what is told of a sector. -/
namespace Go.Proofs.Ytdhhpnfdnoaihaa
open Go.RowKit

theorem conv9 (w : World) (l : List UInt8) : ∃ cap w', (convert 9 27 (Str l)).run Try.prog w = .ok (.slice (some ⟨w.heap.size, 0, none⟩) l.length cap) w' ∧ Rd w' (some ⟨w.heap.size, 0, none⟩) l ∧ Mod None w w' := by
  refine ⟨_, _, run_bytes_of_string w 9 27 5 ⟨l.toArray⟩ und9 und27 und5, .inr ⟨_, 0, rfl, fun i hi => ?_⟩, ((Mod.refl None w).drew).alloc _⟩
  have hi' : i < l.length := by simpa using hi
  rw [Nat.zero_add]
  have := World.cell?_alloc_mark w.drew (bytesRow ⟨l.toArray⟩ (grownCap w l.length 0 5)) 5 ((bytesRow ⟨l.toArray⟩ (grownCap w l.length 0 5)).size, (bytesRow ⟨l.toArray⟩ (grownCap w l.length 0 5)).size + 1) i
  refine this.trans ?_
  unfold bytesRow
  rw [Array.getElem?_append_left (by simpa using hi')]
  simp
  rfl
theorem flat2 {α : Type} (F : α → List Value) (hF : ∀ x, (F x).length = 2) (rest : List Value) : ∀ (l : List α) (j : Nat) (x : α), l[j]? = some x → ∀ i, i < 2 → (l.flatMap F ++ rest)[j * 2 + i]? = (F x)[i]?
  | [], j, x, h, _, _ => by simp at h
  | y :: l, 0, x, h, i, hi => by
    obtain rfl : y = x := by simpa using h
    rw [List.flatMap_cons, List.append_assoc, List.getElem?_append_left (by rw [hF]; omega), Nat.zero_mul, Nat.zero_add]
  | y :: l, j + 1, x, h, i, hi => by
    rw [List.flatMap_cons, List.append_assoc, List.getElem?_append_right (by rw [hF]; omega), hF, show (j + 1) * 2 + i - 2 = j * 2 + i by omega]
    exact flat2 F hF rest l j x (by simpa using h) i hi
section
variable {w w' : World} {S : Nat → Prop} {p b n : Nat} {f : Int → List UInt8} {qs : List Nat} {bv : Value} {st : DSt}
theorem RefAt.at (h : RefAt w S p b n f qs bv st) {j : Nat} {x : Nat × List UInt8} (hx : st.waits[j]? = some x) :
    ∃ q g cap, qs[j]? = some q ∧ bv = .slice (some ⟨g, 0, none⟩) st.waits.length cap ∧ st.waits.length ≤ cap ∧ w.cell? ⟨g, j * 2, none⟩ = some (.int .i64 (x.1 : Int)) ∧ w.cell? ⟨g, j * 2 + 1, none⟩ = some (.slice (some ⟨q, 0, none⟩) 64 64) ∧ S q ∧ Blk w q 5 (x.2.map B) ∧ x.1 < st.last.length ∧ x.2.length = 64 := by
  have hlt : j < st.waits.length := (List.getElem?_eq_some_iff.1 hx).1
  obtain ⟨q, hq⟩ : ∃ q, qs[j]? = some q := ⟨_, List.getElem?_eq_getElem (by rw [h.len]; exact hlt)⟩
  obtain ⟨g, cap, rest, rfl, _, hb, hc, _⟩ := h.buf.open1 (by omega)
  obtain ⟨hq1, hq2⟩ := h.dat j x q hx hq
  have hz : (st.waits.zip qs)[j]? = some (x, q) := by rw [List.getElem?_zip_eq_some]; exact ⟨hx, hq⟩
  have hw := h.ok.wait x (List.mem_of_getElem? hx)
  have h0 := flat2 (fun x : (Nat × List UInt8) × Nat => [.int .i64 (x.1.1 : Int), .slice (some ⟨x.2, 0, none⟩) 64 64]) (fun _ => rfl) rest _ j _ hz 0 (by omega)
  have h1 := flat2 (fun x : (Nat × List UInt8) × Nat => [.int .i64 (x.1.1 : Int), .slice (some ⟨x.2, 0, none⟩) 64 64]) (fun _ => rfl) rest _ j _ hz 1 (by omega)
  refine ⟨q, g, cap, hq, rfl, hc, ?_, ?_, hq1, hq2, hw.1, hw.2⟩
  · rw [hb.cell]; exact h0
  · rw [hb.cell]; exact h1
theorem RefAt.shape (h : RefAt w S p b n f qs bv st) : ∃ a c, bv = .slice a st.waits.length c ∧ st.waits.length ≤ c ∧ c ≤ maxLen := h.buf.shape
theorem pad64_id {d : List UInt8} (h : d.length = 64) : pad64 d = d := by
  have : 64 - d.length = 0 := by omega
  simp [pad64, this]
end
set_option maxRecDepth 100000 in
set_option maxHeartbeats 400000 in
theorem lasting_any (w : World) (S : Nat → Prop) (p N : Nat) (st : DSt) (h : IsRef w S p N st) (k : Nat) (hk : k < st.last.length) :
    Calls Try.prog 71 #[.pointer (some ⟨p, 0, none⟩), .int .i64 (k : Int)] w (WholePost (st.last.getD k []) w) := by
  obtain ⟨b, n, f, qs, bv, h, hn⟩ := h
  obtain ⟨_, h1, _, _, _⟩ := h.cells
  have hm := h.ok.most
  have hl := h.map.look (k : Int) (by unfold In64; omega)
  obtain ⟨hp, h64⟩ := h.last k (st.last[k]) (List.getElem?_eq_getElem hk)
  have hpad : st.last.getD k [] = pad64 (f k) := by rw [List.getD_eq_getElem?_getD, List.getElem?_eq_getElem hk, hp]; rfl
  rw [hpad]
  clear h hpad hp hm hn
  generalize f (k : Int) = l at *
  obtain ⟨cap, w1, hcv, hrd, hm1⟩ := conv9 w l
  have HM1 := hid hm1
  clear hm1
  go_enter Try.func71, Try.ntmps71
  go_wp2_with fail
  refine (whole_any w1 _ cap l hrd h64).mono ?_
  rintro e w' ⟨a, rfl, hf, hm⟩
  have HF := hid hf
  have HM := hid hm
  clear hf hm hrd hl hcv
  go_wp2_with fail
  go_ret
  obtain ⟨b', e, hb, hbk⟩ := HF.out
  exact ⟨_, rfl, ⟨b', e, Nat.le_trans HM1.out.size hb, hbk⟩, HM1.out.trans HM.out⟩
def RTold (d : List UInt8) (w : World) (e : Ending) (w' : World) : Prop := ∃ a, e = .returned (.slice a 64 64) ∧ Rd w' a d ∧ Mod None w w'
set_option maxRecDepth 100000 in
set_option maxHeartbeats 800000 in
theorem told_any (w : World) (S : Nat → Prop) (p N : Nat) (st : DSt) (h : IsRef w S p N st) (k : Nat) (hk : k < st.last.length) :
    Calls Try.prog 72 #[.pointer (some ⟨p, 0, none⟩), .int .i64 (k : Int)] w (RTold (readTo st.waits k (st.last.getD k [])) w) := by
  have HL := hid (lasting_any w S p N st h k hk)
  obtain ⟨b, n, f, qs, bv, h, hn⟩ := h
  have H := hid h
  obtain ⟨ba, bc, rfl, hbc, hbm⟩ := h.shape
  unfold maxLen at hbm
  generalize hd0 : st.last.getD k [] = d0 at *
  clear h hd0 hk hn
  go_enter Try.func72, Try.ntmps72
  go_wp2_with fail
  refine HL.out.mono ?_
  rintro e w1 ⟨a, rfl, hf, hm⟩
  have HF := hid hf
  have HM := hid hm
  clear hf hm HL
  go_wp2_with fail
  go_loopw [5, 6] (fun v i wr => ∃ (j : Nat) (a : Option Addr), j ≤ st.waits.length ∧ i = .int .i64 j ∧ v = .slice a 64 64 ∧ Hid (Rd wr a (readTo (st.waits.take j) k d0)) ∧ Hid (Mod None w wr)) (fun _ i _ => st.waits.length - (intOf i).toNat)
  case atStart => exact ⟨0, a, by omega, rfl, rfl, HF.out.rd, HM.out⟩
  case round =>
    obtain ⟨j, a2, hj, rfl, rfl, hr, hm⟩ := hrel
    have hat := H.out.keep (S' := S) hm.out (fun _ _ h => h) (fun _ h => h) (fun k hk => Nat.lt_of_lt_of_le (H.out.lt k hk) hm.out.size)
    obtain ⟨_, _, h2, _, _⟩ := hat.cells
    by_cases hlt : j < st.waits.length
    · have hlt' : (j : Int) < (st.waits.length : Int) := by omega
      obtain ⟨x, hx⟩ : ∃ x, st.waits[j]? = some x := ⟨_, List.getElem?_eq_getElem hlt⟩
      obtain ⟨q, g, cap, hq, e, _, hc0, hc1, hSq, hqb, _, h64⟩ := hat.at hx
      obtain ⟨rfl, rfl⟩ : ba = some ⟨g, 0, none⟩ ∧ bc = cap := by cases e; exact ⟨rfl, rfl⟩
      have HNX := hid (show readTo (st.waits.take (j + 1)) k d0 = if x.1 = k then x.2 else readTo (st.waits.take j) k d0 by
        rw [List.take_succ_eq_append_getElem hlt, (List.getElem?_eq_some_iff.1 hx).2, readTo_snoc])
      have HQ := hid hqb
      clear hat e hx hq hqb
      obtain ⟨at', d⟩ := x
      simp only at hc0 h64 HNX HQ
      generalize st.waits.length = wl at *
      by_cases hk' : at' = k
      · subst hk'
        go_wp2_with fail
        have hw := whole_any wr (some ⟨q, 0, none⟩) 64 d (HQ.out.rdv 0 (fun i _ => by rw [Nat.zero_add])) (by omega)
        rw [h64, pad64_id h64] at hw
        refine hw.mono ?_
        rintro e w3 ⟨a3, rfl, hf3, hm3⟩
        have HF3 := hid hf3
        have HM3 := hid hm3
        clear hf3 hm3 hw
        go_wp2_with fail
        go_roundw
        case rel => exact ⟨j + 1, a3, by omega, by go_num, rfl, by show Rd _ _ _; rw [HNX.out, if_pos trivial]; exact HF3.out.rd, hm.out.trans HM3.out⟩
        case measure => simp [intOf]; omega
      · have hk2 : ¬ (at' : Int) = (k : Int) := by omega
        go_wp2_with fail
        go_roundw
        case rel => exact ⟨j + 1, a2, by omega, by go_num, rfl, by show Rd _ _ _; rw [HNX.out, if_neg hk']; exact hr.out, hm.out⟩
        case measure => simp [intOf]; omega
    · obtain rfl : j = st.waits.length := by omega
      rw [List.take_length] at hr
      clear hlt hat
      generalize hwl : st.waits.length = wl at *
      go_wp2_with fail
      go_ret
      exact ⟨_, rfl, hr.out, hm.out⟩
def RRead (r : List UInt8 × Int) (w : World) (e : Ending) (w' : World) : Prop :=
  ∃ a, e = .returned (.tuple #[.slice a r.1.length r.1.length, .int .i64 r.2]) ∧ Rd w' a r.1 ∧ Mod None w w'
theorem read_len {st : DSt} (hok : st.Ok) {k : Nat} (hk : k < st.last.length) : (readTo st.waits k (st.last.getD k [])).length = 64 := by
  refine readTo_length k _ _ ?_ (fun x hx => (hok.wait x hx).2)
  rw [List.getD_eq_getElem?_getD, List.getElem?_eq_getElem hk]; exact hok.sec _ (List.getElem_mem hk)
set_option maxRecDepth 100000 in
set_option maxHeartbeats 400000 in
theorem rread_any (w : World) (S : Nat → Prop) (p N : Nat) (st : DSt) (h : IsRef w S p N st) (i : Int) :
    Calls Try.prog 42 #[.pointer (some ⟨p, 0, none⟩), .int .i64 i] w (RRead (st.read i) w) := by
  have HI := hid h
  obtain ⟨b, n, f, qs, bv, h, hn⟩ := h
  obtain ⟨h0, _, _, _, h4⟩ := h.cells
  have hok := h.ok
  clear h hn
  by_cases hd : st.down = true
  · have HS := hid (show st.read i = ([], 32) by unfold DSt.read DSt.may; simp [hd])
    rw [hd] at h4
    clear hd hok HI
    go_enter Try.func42, Try.ntmps42
    go_wp2
    go_ret2
    rw [HS.out]
    exact ⟨none, rfl, .inl rfl, Mod.refl _ _⟩
  · rw [Bool.not_eq_true] at hd
    rw [hd] at h4
    by_cases hi : i < 0
    · have HS := hid (show st.read i = ([], 31) by unfold DSt.read DSt.may; simp [hd, hi])
      clear hd hok HI
      go_enter Try.func42, Try.ntmps42
      go_wp2
      go_ret2
      rw [HS.out]
      exact ⟨none, rfl, .inl rfl, Mod.refl _ _⟩
    · by_cases hi2 : (st.last.length : Int) ≤ i
      · have HS := hid (show st.read i = ([], 31) by unfold DSt.read DSt.may; simp [hd, hi, hi2])
        clear hd hok HI
        go_enter Try.func42, Try.ntmps42
        go_wp2
        go_ret2
        rw [HS.out]
        exact ⟨none, rfl, .inl rfl, Mod.refl _ _⟩
      · obtain ⟨k, rfl⟩ : ∃ k : Nat, i = (k : Int) := ⟨i.toNat, by omega⟩
        have hk : k < st.last.length := by omega
        have hl := read_len hok hk
        have HS := hid (show st.read k = (readTo st.waits k (st.last.getD k []), 0) by unfold DSt.read DSt.may; simp [hd, hi, hi2])
        have HT := hid (told_any w S p N st HI.out k hk)
        clear hd hok HI
        generalize readTo st.waits k (st.last.getD k []) = d at *
        go_enter Try.func42, Try.ntmps42
        go_wp2_with fail
        refine HT.out.mono ?_
        rintro e w1 ⟨a, rfl, hr, hm⟩
        have HR := hid hr
        have HM := hid hm
        clear hr hm HT
        go_wp2_with fail
        go_ret2
        rw [HS.out]
        exact ⟨a, by simp only [hl]; rfl, HR.out, HM.out⟩
end Go.Proofs.Ytdhhpnfdnoaihaa

/-! E4 -/
/- The document's disk: what waits is made lasting. -/
namespace Go.Proofs.Ytdhhpnfdnoaihaa
open Go.RowKit

section
variable {w w' : World} {S : Nat → Prop} {p b n : Nat} {f : Int → List UInt8} {qs : List Nat} {bv : Value} {st : DSt}
/-- a sector is made lasting -/
theorem RefAt.laid (h : RefAt w S p b n f qs bv st) {m : Nat} {k : Nat} {d : List UInt8} (hm : Mod (fun i => i = b) w w') (hmap : IsMap w' b m (fun j => if j = (k : Int) then d else f j)) (hd : d.length = 64) :
    RefAt w' S p b m (fun j => if j = (k : Int) then d else f j) qs bv { st with last := st.last.set k d } where
  obj := by
    have := hm.blk h.obj (h.map.ne h.obj)
    simpa using this
  own := h.own
  ownb := h.ownb
  map := hmap
  last := fun i s hs => by
    show pad64 (if (i : Int) = (k : Int) then d else f i) = s ∧ (if (i : Int) = (k : Int) then d else f i).length ≤ 64
    rw [List.getElem?_set] at hs
    by_cases hik : k = i
    · subst hik
      rw [if_pos rfl] at hs
      rw [if_pos rfl]
      split at hs
      · have : d = s := by simpa using hs
        subst this
        exact ⟨pad64_id hd, by omega⟩
      · cases hs
    · rw [if_neg hik] at hs
      rw [if_neg (by omega)]
      exact h.last i s hs
  buf := h.buf.kept hm (fun g hg e => h.buf.map h.map g hg e) (fun _ h => h)
  dat := fun j x q hx hq => ⟨(h.dat j x q hx hq).1, hm.blk (h.dat j x q hx hq).2 (h.map.ne (h.dat j x q hx hq).2)⟩
  len := h.len
  ok := ⟨by show 1 ≤ (st.last.set k d).length; rw [List.length_set]; exact h.ok.one, by show (st.last.set k d).length ≤ _; rw [List.length_set]; exact h.ok.most, fun s hs => by
    rcases List.mem_or_eq_of_mem_set hs with hs | rfl
    · exact h.ok.sec s hs
    · exact hd, fun x hx => by show x.1 < (st.last.set k d).length ∧ _; rw [List.length_set]; exact h.ok.wait x hx, h.ok.arm⟩
  lt := fun k hk => Nat.lt_of_lt_of_le (h.lt k hk) hm.size
end
def RFlushPost (S : Nat → Prop) (p N : Nat) (r : DSt × Int) (w : World) (e : Ending) (w' : World) : Prop :=
  e = .returned (.int .i64 r.2) ∧ IsRef w' S p N r.1 ∧ Mod S w w'
set_option maxRecDepth 100000 in
set_option maxHeartbeats 800000 in
theorem rflush_any (w : World) (S : Nat → Prop) (p N : Nat) (st : DSt) (h : IsRef w S p N st) (hN : N ≤ 4000000000000) :
    Calls Try.prog 39 #[.pointer (some ⟨p, 0, none⟩)] w (RFlushPost S p N st.flush w) := by
  obtain ⟨b, n, f, qs, bv, h, hn⟩ := h
  obtain ⟨_, _, _, _, h4⟩ := h.cells
  by_cases hd : st.down = true
  · have HS := hid (show st.flush = (st, 32) by unfold DSt.flush; rw [if_pos hd])
    have H := hid h
    rw [hd] at h4
    clear h hd hN
    go_enter Try.func39, Try.ntmps39
    go_wp2
    go_ret
    exact ⟨by rw [HS.out]; rfl, by rw [HS.out]; exact ⟨b, n, f, qs, bv, H.out, hn⟩, Mod.refl _ _⟩
  · have HS := hid (show st.flush = (({ st.settle st.waits.length with waits := [] } : DSt).changed, 0) by unfold DSt.flush; rw [if_neg hd])
    rw [Bool.not_eq_true] at hd
    rw [hd] at h4
    have HD := hid hd
    have H := hid h
    have HN := hid (And.intro hn hN)
    obtain ⟨ba, bc, rfl, hbc, hbm⟩ := h.shape
    unfold maxLen at hbm
    clear h hd hN hn
    go_enter Try.func39, Try.ntmps39
    go_wp2_with fail
    go_loopw [3] (fun i wr => ∃ (k : Nat), k ≤ st.waits.length ∧ i = .int .i64 k ∧ Hid (∃ f, RefAt wr S p b (n + k) f qs (.slice ba st.waits.length bc) (st.settle k)) ∧ Hid (Mod S w wr)) (fun i _ => st.waits.length - (intOf i).toNat)
    case atStart => exact ⟨0, by omega, rfl, ⟨f, H.out⟩, Mod.refl _ _⟩
    case round =>
      obtain ⟨k, hk, rfl, hr, hm⟩ := hrel
      obtain ⟨f1, hat⟩ := hr.out
      obtain ⟨_, hc1, hc2, _, _⟩ := hat.cells
      by_cases hlt : k < st.waits.length
      · have hlt' : (k : Int) < (st.waits.length : Int) := by omega
        obtain ⟨x, hx⟩ : ∃ x, st.waits[k]? = some x := ⟨_, List.getElem?_eq_getElem hlt⟩
        obtain ⟨q, g, cap, hq, e, _, hc3, hc4, hSq, hqb, hx1, h64⟩ := hat.at (st := st.settle k) hx
        obtain ⟨rfl, rfl⟩ : ba = some ⟨g, 0, none⟩ ∧ bc = cap := by cases e; exact ⟨rfl, rfl⟩
        clear e
        have hs := str_rd (w := wr.drew) (a := some ⟨q, 0, none⟩) (l := x.2) (hqb.rdv 0 (fun i _ => by rw [Nat.zero_add])) 64 64 h64.symm
        have hlast := hat.ok.most
        obtain ⟨w2, hput, hmap, hmod⟩ := (hat.map.keep (w' := wr.drew) (Mod.refl None wr).drew (fun h => h)).put (by have := HN.out; unfold maxLen; omega) (x.1 : Int) (by unfold In64; omega) x.2 (by omega)
        have hset := (hat.keep (S' := S) (w' := wr.drew) (Mod.refl None wr).drew (fun _ _ h => h) (fun _ h => h) hat.lt).laid hmod hmap h64
        have HSET := hid hset
        have HM2 := hid (hm.out.then (S' := fun i => i = b) (c := w2) ((Mod.refl (fun i => i = b) wr).drew.trans hmod) (fun k _ e => by subst e; exact hat.ownb))
        have HX := hid hx
        have HSS := hid (fun at' dd (hh : (st.settle k).waits[k] = (at', dd)) => DSt.settle_succ' st k hlt at' dd hh)
        clear hat hx hq hqb hmap hmod hset hx1 h64 hlast
        obtain ⟨at', d⟩ := x
        simp only at hc3 hs hput HSET
        unfold Str at hs hput
        go_wp2
        refine wp_region_still_tail 21 (by kernel_rfl) (by kernel_rfl) ?_
        change wpStill _ _ (World.drew _) (fun a' => wpList _ _ _ _ a' (World.drew _)) _ _
        simp only [List.take_succ_cons, List.take_zero, List.drop_succ_cons, List.drop_zero]
        repeat still_step
        refine wpStill_nil ?_
        go_wp2
        go_roundw
        case rel =>
          refine ⟨k + 1, by omega, by go_num, ⟨fun j => if j = (at' : Int) then d else f1 j, ?_⟩, HM2.out⟩
          have := HSS.out at' d (by have := HX.out; exact (List.getElem?_eq_some_iff.1 this).2)
          rw [this]; exact HSET.out
        case measure => simp [intOf]; omega
      · obtain rfl : k = st.waits.length := by omega
        have f2 := hat.obj.free 2
        have HAT := hid hat
        have HMM := hid hm.out
        have hm2 : Mod (fun k => k = p) wr (wr.setCell ⟨p, 2, none⟩ (.slice none 0 0)) := Mod.set (S := fun k => k = p) (Mod.refl _ _) (.inl rfl) _
        have hb2 := hat.obj.set 2 (.slice none 0 0)
        have hd2 : (st.settle st.waits.length).down = false := HD.out
        rw [hd2] at hb2
        have HR2 := hid (hat.struck hm2 hb2 hat.ok.arm)
        have HM2 := hid hm2
        clear hat hr hm hm2 hb2 hd2 hlt
        generalize hwl : st.waits.length = wl at *
        have HWL := hid hwl
        clear hwl
        go_wp2_with fail
        refine (change_any _ S p N _ ⟨b, n + wl, f1, _, _, HR2.out, HN.out.1⟩ rfl).mono ?_
        rintro e w5 ⟨rfl, hd5, hm5⟩
        have HD5 := hid hd5
        have HM5 := hid hm5
        clear hd5 hm5
        go_wp2_with fail
        go_ret
        rw [HS.out]
        refine ⟨rfl, ?_, (HMM.out.then HM2.out (fun k _ e => by subst e; exact H.out.own)).then HM5.out (fun k _ e => by subst e; exact H.out.own)⟩
        have h5 := HD5.out
        rw [← HD.out] at h5
        exact h5
end Go.Proofs.Ytdhhpnfdnoaihaa

/-! E5 -/
/- The document's disk: a crash. -/
namespace Go.Proofs.Ytdhhpnfdnoaihaa
open Go.RowKit

theorem rcrash_end {w wr : World} {S : Nat → Prop} {p b m N : Nat} {f : Int → List UInt8} {qs : List Nat} {bv : Value} {st : DSt} (h : RefAt wr S p b m f qs bv st) (hm : Mod S w wr) (hn : m ≤ N) :
    IsRef (((wr.setCell ⟨p, 2, none⟩ (.slice none 0 0)).setCell ⟨p, 4, none⟩ (.bool false)).setCell ⟨p, 3, none⟩ (.int .i64 (-1))) S p N { last := st.last, waits := [], armed := -1, down := false } ∧
      Mod S w (((wr.setCell ⟨p, 2, none⟩ (.slice none 0 0)).setCell ⟨p, 4, none⟩ (.bool false)).setCell ⟨p, 3, none⟩ (.int .i64 (-1))) := by
  have m3 : Mod (fun k => k = p) wr (((wr.setCell ⟨p, 2, none⟩ (.slice none 0 0)).setCell ⟨p, 4, none⟩ (.bool false)).setCell ⟨p, 3, none⟩ (.int .i64 (-1))) :=
    Mod.set (S := fun k => k = p) (Mod.set (S := fun k => k = p) (Mod.set (S := fun k => k = p) (Mod.refl _ _) (.inl rfl) _) (.inl rfl) _) (.inl rfl) _
  exact ⟨⟨b, m, f, [], _, h.struck m3 (((h.obj.set 2 _).set 4 _).set 3 _) (by omega), by simpa using hn⟩, hm.then m3 (fun k _ e => by subst e; exact h.own)⟩
def mix (d old : List UInt8) (m : Nat) : List UInt8 := d.take m ++ old.drop m
theorem mix_zero (d old : List UInt8) : mix d old 0 = old := by simp [mix]
theorem mix_set {d old : List UInt8} {m : Nat} {c : UInt8} (hd : d[m]? = some c) (ho : old.length = d.length) : ((mix d old m).map B).set m (.int .u8 (c.toNat : Int)) = (mix d old (m + 1)).map B := by
  have hm : m < d.length := (List.getElem?_eq_some_iff.1 hd).1
  have he : d[m] = c := (List.getElem?_eq_some_iff.1 hd).2
  have : (mix d old m).set m c = mix d old (m + 1) := by
    unfold mix
    rw [List.take_succ_eq_append_getElem hm, he, List.drop_eq_getElem_cons (by omega : m < old.length), List.set_append_right _ _ (by simp; omega)]
    simp [Nat.min_eq_left (Nat.le_of_lt hm)]
    rw [List.drop_eq_getElem_cons (by omega : m < old.length)]; rfl
  rw [← this, List.map_set]; rfl
theorem mix_len {d old : List UInt8} {m : Nat} (hd : d.length = 64) (ho : old.length = 64) (hm : m ≤ 64) : (mix d old m).length = 64 := by
  simp [mix, hd, ho]; omega
theorem clamp_at {kp : Int} {wl k : Nat} (h1 : k < wl) (h2 : ¬ (k : Int) < kp) (h3 : k = 0 ∨ (k : Int) ≤ kp) : clampN kp wl = k := by
  unfold clampN; omega
theorem clamp_all {kp : Int} {wl : Nat} (h3 : wl = 0 ∨ (wl : Int) ≤ kp) : clampN kp wl = wl := by
  unfold clampN; omega
theorem getD_sec {st : DSt} (hok : st.Ok) {k : Nat} (hk : k < st.last.length) : (st.last.getD k []).length = 64 := by
  rw [List.getD_eq_getElem?_getD, List.getElem?_eq_getElem hk]; exact hok.sec _ (List.getElem_mem hk)
set_option maxRecDepth 100000 in
set_option maxHeartbeats 1600000 in
theorem rcrash_any (w : World) (S : Nat → Prop) (p N : Nat) (st : DSt) (h : IsRef w S p N st) (hN : N ≤ 4000000000000) (kp tn : Int) :
    Calls Try.prog 41 #[.pointer (some ⟨p, 0, none⟩), .int .i64 kp, .int .i64 tn] w (RefPost (.tuple #[]) S p N (st.crash kp tn) S w) := by
  obtain ⟨b, n, f, qs, bv, h, hn⟩ := h
  have HC := hid (show st.crash kp tn = st.crashed (clampN kp st.waits.length) (clampN tn 64) from rfl)
  have H := hid h
  have HN := hid (And.intro hn hN)
  obtain ⟨ba, bc, rfl, hbc, hbm⟩ := h.shape
  unfold maxLen at hbm
  clear h hN hn
  go_enter Try.func41, Try.ntmps41
  go_wp2_with fail
  go_loopw [6] (fun i wr => ∃ (k : Nat), k ≤ st.waits.length ∧ i = .int .i64 k ∧ Hid (k = 0 ∨ (k : Int) ≤ kp) ∧ Hid (∃ f, RefAt wr S p b (n + k) f qs (.slice ba st.waits.length bc) (st.settle k)) ∧ Hid (Mod S w wr)) (fun i _ => st.waits.length - (intOf i).toNat)
  case atStart => exact ⟨0, by omega, rfl, .inl rfl, ⟨f, H.out⟩, Mod.refl _ _⟩
  case round =>
    obtain ⟨k, hk, rfl, hkp, hr, hm⟩ := hrel
    obtain ⟨f1, hat⟩ := hr.out
    obtain ⟨_, _, hc2, _, _⟩ := hat.cells
    by_cases hlt : k < st.waits.length
    · have hlt' : (k : Int) < (st.waits.length : Int) := by omega
      obtain ⟨x, hx⟩ : ∃ x, st.waits[k]? = some x := ⟨_, List.getElem?_eq_getElem hlt⟩
      obtain ⟨q, g, cap, hq, e, _, hc3, hc4, hSq, hqb, hx1, h64⟩ := hat.at (st := st.settle k) hx
      obtain ⟨rfl, rfl⟩ : ba = some ⟨g, 0, none⟩ ∧ bc = cap := by cases e; exact ⟨rfl, rfl⟩
      clear e
      obtain ⟨at', d⟩ := x
      simp only at hc3 hc4 hqb hx1 h64
      obtain ⟨w1, hw1⟩ : ∃ w1, w1 = wr.alloc (.cells #[.int .i64 (at' : Int), .slice (some ⟨q, 0, none⟩) 64 64] 115) := ⟨_, rfl⟩
      have hm1 : Mod None wr w1 := by rw [hw1]; exact (Mod.refl _ _).alloc _
      have hv : Blk w1 wr.heap.size 115 [.int .i64 (at' : Int), .slice (some ⟨q, 0, none⟩) 64 64] := by rw [hw1]; exact Blk.new wr 115 _
      have hat1 := hat.keep (S' := S) hm1 (fun _ _ h => h) (fun _ h => h) (fun k hk => Nat.lt_of_lt_of_le (hat.lt k hk) hm1.size)
      have hqb1 := hm1.blk hqb (fun h => h)
      by_cases hlk : (k : Int) < kp
      · obtain ⟨_, hp1, _, _, _⟩ := hat1.cells
        have hv0 : w1.cell? ⟨wr.heap.size, 0, none⟩ = some (.int .i64 (at' : Int)) := hv.is rfl
        have hv1 : w1.cell? ⟨wr.heap.size, 1, none⟩ = some (.slice (some ⟨q, 0, none⟩) 64 64) := hv.is rfl
        have hs := str_rd (w := w1.drew) (a := some ⟨q, 0, none⟩) (l := d) (hqb1.rdv 0 (fun i _ => by rw [Nat.zero_add])) 64 64 h64.symm
        have hlast := hat.ok.most
        obtain ⟨w2, hput, hmap, hmod⟩ := (hat1.map.keep (w' := w1.drew) (Mod.refl None w1).drew (fun h => h)).put (by have := HN.out; unfold maxLen; omega) (at' : Int) (by unfold In64; omega) d (by omega)
        have HSET := hid ((hat1.keep (S' := S) (w' := w1.drew) (Mod.refl None w1).drew (fun _ _ h => h) (fun _ h => h) hat1.lt).laid hmod hmap h64)
        have HM2 := hid ((hm.out.trans (hm1.mono (fun _ _ h => h.elim))).then (S' := fun i => i = b) (c := w2) ((Mod.refl (fun i => i = b) w1).drew.trans hmod) (fun k _ e => by subst e; exact hat.ownb))
        have HSS := hid (DSt.settle_succ' st k hlt at' d (List.getElem?_eq_some_iff.1 hx).2)
        clear hat hx hq hqb hmap hmod hx1 h64 hlast hat1 hqb1 hv hm1
        unfold Str at hs hput
        go_wp2
        rw [← hw1]
        clear hw1 hc3 hc4 hc2
        refine wp_region_still_tail 9 (by kernel_rfl) (by kernel_rfl) ?_
        change wpStill _ _ (World.drew _) (fun a' => wpList _ _ _ _ a' (World.drew _)) _ _
        simp only [List.take_succ_cons, List.take_zero, List.drop_succ_cons, List.drop_zero]
        repeat still_step
        refine wpStill_nil ?_
        go_wp2
        go_roundw
        case rel =>
          refine ⟨k + 1, by omega, by go_num, .inr (by omega), ⟨fun j => if j = (at' : Int) then d else f1 j, ?_⟩, HM2.out⟩
          rw [HSS.out]; exact HSET.out
        case measure => simp [intOf]; omega
      · have HCL := hid (clamp_at hlt hlk hkp.out)
        have hv0 : w1.cell? ⟨wr.heap.size, 0, none⟩ = some (.int .i64 (at' : Int)) := hv.is rfl
        have hlast := hat.ok.most
        have HOLD := hid (getD_sec hat.ok hx1)
        have HLAST := hid (lasting_any w1 S p (n + k + st.waits.length) (st.settle k) ⟨b, n + k, f1, qs, _, hat1, Nat.le_refl _⟩ at' hx1)
        have HX := hid (show st.crash kp tn = { last := (st.settle k).last.set at' (torn d ((st.settle k).last.getD at' []) (clampN tn 64)), waits := [], armed := -1, down := false } by
          rw [HC.out, HCL.out, DSt.crashed_some st _ _ _ hx]; rfl)
        generalize (st.settle k).last.getD at' [] = old at *
        have HOL := hid HOLD.out
        clear HOLD
        have HAT1 := hid hat1
        have HV := hid hv
        have HQB := hid hqb1
        have HM1 := hid (hm.out.trans (hm1.mono (S' := S) (fun _ _ h => h.elim)))
        have HNN := hid (show n + k + 1 ≤ N ∧ n + k < maxLen by have := HN.out; unfold maxLen; omega)
        have HIN := hid (show In64 (at' : Int) by unfold In64; omega)
        have HD64 := hid h64
        have hvs : wr.heap.size < w1.heap.size := hv.lt
        have HVS := hid hvs
        have HM1w := hid (show w.heap.size ≤ w1.heap.size from HM1.out.size)
        clear hat hat1 hqb hqb1 hv hm1 hx hq hx1 h64 hlast hm hr hvs HC HCL hkp
        generalize hvb : wr.heap.size = v at *
        go_wp2_with fail
        rw [← hw1]
        clear hw1 hc3 hc4 hc2
        refine HLAST.out.mono ?_
        rintro e w2 ⟨a, rfl, hf, hm2⟩
        obtain ⟨qo, rfl, hqo, hob⟩ := hf
        have HAT2 := hid (HAT1.out.keep (S' := S) hm2 (fun _ _ h => h) (fun _ h => h) (fun k hk => Nat.lt_of_lt_of_le (HAT1.out.lt k hk) hm2.size))
        have HV2 := hid (hm2.blk HV.out (fun h => h))
        have HQB2 := hid (hm2.blk HQB.out (fun h => h))
        have HM2 := hid (HM1.out.trans (hm2.mono (S' := S) (fun _ _ h => h.elim)))
        have HFAR := hid (show (∀ k, S k → ¬ k = qo) ∧ v ≠ qo from ⟨fun k hk e => by have := HAT1.out.lt k hk; omega, by have := HVS.out; omega⟩)
        have HQO := hid hqo
        have HOB := hid hob
        have HQQ := hid hSq
        clear hm2 hqo hob hSq hv0 HLAST HAT1 HV HQB HM1
        have HCT := hid (show clampN tn 64 ≤ 64 from clamp_le _ _)
        have HCT2 := hid (show ∀ m : Nat, m < clampN tn 64 → (m : Int) < 64 ∧ (m : Int) < tn by intro m hm; unfold clampN at hm; omega)
        have HCT3 := hid (show ∀ m : Nat, m ≤ clampN tn 64 → ¬ m < clampN tn 64 → m = clampN tn 64 ∧ (m = 64 ∨ ((m : Int) < 64 ∧ ¬ (m : Int) < tn)) by intro m h1 h2; unfold clampN at *; omega)
        generalize clampN tn 64 = t at *
        go_wp2_with fail
        go_loopw [9] (fun i wq => ∃ m : Nat, m ≤ t ∧ i = .int .i64 m ∧ Hid (Blk wq qo 5 ((mix d old m).map B)) ∧ Hid (Mod (fun k => k = qo) w2 wq)) (fun i _ => t - (intOf i).toNat)
        case atStart => exact ⟨0, Nat.zero_le _, rfl, by show Blk _ _ _ _; rw [mix_zero]; exact HOB.out, Mod.refl _ _⟩
        case round =>
          obtain ⟨m, hmt, rfl, hb, hmq⟩ := hrel
          by_cases hml : m < t
          · obtain ⟨c1, c2⟩ := HCT2.out m hml
            have hv1 : wr.cell? ⟨v, 1, none⟩ = some (.slice (some ⟨q, 0, none⟩) 64 64) := (hmq.out.blk HV2.out HFAR.out.2).is rfl
            have hm64 : m < d.length := by have := HD64.out; have := HCT.out; omega
            obtain ⟨c, hc⟩ : ∃ c, d[m]? = some c := ⟨_, List.getElem?_eq_getElem hm64⟩
            have hq1 : wr.cell? ⟨q, m, none⟩ = some (.int .u8 (c.toNat : Int)) := by
              rw [(hmq.out.blk HQB2.out (HFAR.out.1 q HQQ.out)).cell, List.getElem?_map, hc]; rfl
            have hfr := hb.out.free m
            have HB := hid (show Blk (wr.setCell ⟨qo, m, none⟩ (.int .u8 (c.toNat : Int))) qo 5 ((mix d old (m + 1)).map B) by
              rw [← mix_set hc (by rw [HD64.out]; exact HOL.out)]; exact hb.out.set m _)
            have HMQ := hid (show Mod (fun k => k = qo) w2 (wr.setCell ⟨qo, m, none⟩ (.int .u8 (c.toNat : Int))) from hmq.out.set (.inl rfl) _)
            have HCELL := hid (show wr.cell? ⟨qo, m, none⟩ ≠ none by
              rw [hb.out.cell]
              have := mix_len HD64.out HOL.out (Nat.le_trans hmt HCT.out)
              simp; have := HD64.out; omega)
            clear hb hmq hc hm64
            go_wp2_with fail
            go_roundw
            case rel => exact ⟨m + 1, by omega, by go_num, HB.out, HMQ.out⟩
            case measure => simp [intOf]; omega
          · obtain ⟨rfl, hcc⟩ := HCT3.out m hmt hml
            have hml' : (mix d old m).length = 64 := mix_len HD64.out HOL.out HCT.out
            have hat3 := HAT2.out.keep (S' := S) hmq.out (fun k hk => HFAR.out.1 k hk) (fun _ h => h) (fun k hk => Nat.lt_of_lt_of_le (HAT2.out.lt k hk) hmq.out.size)
            obtain ⟨_, hp1, _, _, _⟩ := hat3.cells
            have hv0 : wr.cell? ⟨v, 0, none⟩ = some (.int .i64 (at' : Int)) := (hmq.out.blk HV2.out HFAR.out.2).is rfl
            have hs := str_rd (w := wr.drew) (a := some ⟨qo, 0, none⟩) (l := mix d old m) (hb.out.rdv 0 (fun i _ => by rw [Nat.zero_add])) 64 64 hml'.symm
            obtain ⟨w4, hput, hmap, hmod⟩ := (hat3.map.keep (w' := wr.drew) (Mod.refl None wr).drew (fun h => h)).put HNN.out.2 (at' : Int) HIN.out (mix d old m) (by omega)
            have hset := (hat3.keep (S' := S) (w' := wr.drew) (Mod.refl None wr).drew (fun _ _ h => h) (fun _ h => h) hat3.lt).laid hmod hmap hml'
            have HM4 := hid ((HM2.out.then hmq.out (fun k hk e => by subst e; have := HQO.out; have := HM1w.out; omega)).then (S' := fun i => i = b) (c := w4) ((Mod.refl (fun i => i = b) wr).drew.trans hmod) (fun k _ e => by subst e; exact hat3.ownb))
            have f2 := hset.obj.free 2
            have f3 := hset.obj.free 3
            have f4 := hset.obj.free 4
            have HE := hid (rcrash_end hset HM4.out HNN.out.1)
            obtain ⟨_, _, d2, d3, d4⟩ := hset.cells
            clear hat3 hb hmq hmap hmod hset hml'
            unfold Str at hs hput
            have HX2 := hid (show st.crash kp tn = { last := (st.settle k).last.set at' (mix d old m), waits := [], armed := -1, down := false } from HX.out)
            generalize mix d old m = ml at *
            have hcc' : ¬ (m : Int) < 64 ∨ ((m : Int) < 64 ∧ ¬ (m : Int) < tn) := by omega
            clear hcc hml hmt HX HCT2 HCT3
            rcases hcc' with c1 | ⟨c1, c2⟩
            all_goals
              go_wp2
              refine wp_region_still_tail 8 (by kernel_rfl) (by kernel_rfl) ?_
              change wpStill _ _ (World.drew _) (fun a' => wpList _ _ _ _ a' (World.drew _)) _ _
              simp only [List.take_succ_cons, List.take_zero, List.drop_succ_cons, List.drop_zero]
              repeat still_step
              refine wpStill_nil ?_
              go_wp2
              go_end0
              rw [HX2.out]
              exact ⟨rfl, HE.out.1, HE.out.2⟩
    · obtain rfl : k = st.waits.length := by omega
      have HCL := hid (clamp_all hkp.out)
      have f2 := hat.obj.free 2
      have f3 := hat.obj.free 3
      have f4 := hat.obj.free 4
      have HE := hid (rcrash_end hat hm.out HN.out.1)
      have HX := hid (show st.crash kp tn = { last := (st.settle st.waits.length).last, waits := [], armed := -1, down := false } by rw [HC.out, HCL.out, DSt.crashed_none st _ _ (Nat.le_refl _)])
      clear hat hr hm hlt
      generalize st.waits.length = wl at *
      go_wp2_with fail
      go_end0
      rw [HX.out]
      exact ⟨rfl, HE.out.1, HE.out.2⟩
end Go.Proofs.Ytdhhpnfdnoaihaa

/-! E6 -/
/- The document's disk: a write waits. -/
namespace Go.Proofs.Ytdhhpnfdnoaihaa
open Go.RowKit

def RWPost (S : Nat → Prop) (p N : Nat) (r : DSt × Int) (w : World) (e : Ending) (w' : World) : Prop :=
  e = .returned (.int .i64 r.2) ∧ IsRef w' (Grow S w w') p N r.1 ∧ Mod S w w'
theorem IsRef.grow {w : World} {S : Nat → Prop} {p N : Nat} {st : DSt} (h : IsRef w S p N st) (M : Nat) (hM : N ≤ M) : IsRef w (Grow S w w) p M st := by
  obtain ⟨b, n, f, qs, bv, h, hn⟩ := h
  exact ⟨b, n, f, qs, bv, h.keep (Mod.refl None w) (fun _ _ h => h) (fun _ h => .inl h) (fun k hk => by
    rcases hk with hk | hk
    · exact h.lt k hk
    · omega), by omega⟩
theorem IsRef.mono {w : World} {S S' : Nat → Prop} {p N : Nat} {st : DSt} (h : IsRef w S p N st) (hS : ∀ k, S k → S' k) (hlt : ∀ k, S' k → k < w.heap.size) : IsRef w S' p N st := by
  obtain ⟨b, n, f, qs, bv, h, hn⟩ := h
  exact ⟨b, n, f, qs, bv, h.keep (Mod.refl None w) (fun _ _ h => h) hS hlt, hn⟩
theorem IsRef.lt {w : World} {S : Nat → Prop} {p N : Nat} {st : DSt} (h : IsRef w S p N st) : ∀ k, S k → k < w.heap.size := by
  obtain ⟨b, n, f, qs, bv, h, hn⟩ := h; exact h.lt
theorem rwrite_fin {w w4 w5 : World} {S : Nat → Prop} {p N : Nat} {st : DSt} (h : IsRef w5 (Grow S w w4) p N st) (hs : w4.heap.size ≤ w5.heap.size) : IsRef w5 (Grow S w w5) p N st :=
  h.mono (fun k hk => hk.imp id (fun h => ⟨h.1, by omega⟩)) (fun k hk => by
    rcases hk with hk | hk
    · exact h.lt k (.inl hk)
    · exact hk.2)
theorem e_und111 : Try.prog.underlying 111 = some (.slice 115) := by kernel_rfl
theorem e_info115 : (Try.prog.info? 115).map (fun i => (i.zero, i.size, i.bytes)) = some (some (.agg #[.int .i64 0, .slice none 0 0]), 2, 32) := by kernel_rfl
theorem zip_snoc {α β : Type} (l : List α) (m : List β) (x : α) (y : β) (h : m.length = l.length) : (l ++ [x]).zip (m ++ [y]) = l.zip m ++ [(x, y)] := by
  rw [List.zip_append h.symm]; rfl
theorem bufC_snoc (ws : List (Nat × List UInt8)) (qs : List Nat) (x : Nat × List UInt8) (q : Nat) (h : qs.length = ws.length) : bufC (ws ++ [x]) (qs ++ [q]) = bufC ws qs ++ [.int .i64 (x.1 : Int), .slice (some ⟨q, 0, none⟩) 64 64] := by
  unfold bufC
  rw [zip_snoc _ _ _ _ h]; simp
/-- what stands behind the append and the store -/
theorem rwrite_end {w w1 w3 : World} {S : Nat → Prop} {p b n N : Nat} {f : Int → List UInt8} {qs : List Nat} {bv : Value} {st : DSt} {k : Nat} {d : List UInt8} {q : Nat} {va : Option Addr} {vc : Nat} (h : RefAt w S p b n f qs bv st)
    (hm1 : Mod None w w1) (hq : w.heap.size ≤ q) (hqb : Blk w1 q 5 (d.map B)) (hd : d.length = 64) (hk : k < st.last.length) (hn : n + st.waits.length ≤ N)
    (h2 : w3.ownsRow 0 115 2 (.slice va (st.waits.length + 1) vc) (st.waits.length + 1) (bufC st.waits qs ++ [.int .i64 (k : Int), .slice (some ⟨q, 0, none⟩) 64 64]))
    (h3 : Mod (fun k => bv.ownBlock = some k) w1 w3)
    (h4 : ∀ g, (Value.slice va (st.waits.length + 1) vc).ownBlock = some g → bv.ownBlock = some g ∨ (w1.heap.size ≤ g ∧ g < w3.heap.size)) :
    let w4 := w3.setCell ⟨p, 2, none⟩ (.slice va (st.waits.length + 1) vc)
    w3.cell? ⟨p, 2, none⟩ = some bv ∧ w3.frozen? ⟨p, 2, none⟩ = false ∧ IsRef w4 (Grow S w w4) p (N + 1) (st.put k d) ∧ Mod S w w4 := by
  have hfar : bv.ownBlock ≠ some p := fun e => h.buf.far h.obj (by decide) p e rfl
  have hobj3 : Blk w3 p 113 [.int .i64 (st.last.length : Int), .map (some b), bv, .int .i64 st.armed, .bool st.down] := h3.blk (hm1.blk h.obj (fun h => h)) hfar
  have m4 : Mod (fun k => k = p) w3 (w3.setCell ⟨p, 2, none⟩ (.slice va (st.waits.length + 1) vc)) := Mod.set (S := fun k => k = p) (Mod.refl _ _) (.inl rfl) _
  have hm3 : Mod S w w3 := (hm1.mono (S' := S) (fun _ _ h => h.elim)).then h3 (fun i hi e => h.buf.2 i e)
  have hmap3 : IsMap w3 b n f := (h.map.keep hm1 (fun h => h)).keep h3 (fun e => h.buf.map h.map b e rfl)
  have hlen : (st.waits ++ [(k, d)]).length = st.waits.length + 1 := by simp
  have hb4 := hobj3.set 2 (.slice va (st.waits.length + 1) vc)
  refine ⟨hobj3.is rfl, hobj3.free 2, ⟨b, n, f, qs ++ [q], .slice va (st.waits.length + 1) vc, ?_, by show n + (st.waits ++ [(k, d)]).length ≤ N + 1; omega⟩, hm3.then m4 (fun k _ e => by subst e; exact h.own)⟩
  have hs3 : w.heap.size ≤ w3.heap.size := hm3.size
  have hs4 : (w3.setCell ⟨p, 2, none⟩ (.slice va (st.waits.length + 1) vc)).heap.size = w3.heap.size := by simp
  have howner : ∀ g, (Value.slice va (st.waits.length + 1) vc).ownBlock = some g → g ≠ p := fun g hg e => by
    rcases h4 g hg with h5 | h5
    · exact hfar (by rw [h5, e])
    · have := (hm1.blk h.obj (fun h => h)).lt; omega
  refine ⟨hb4, .inl h.own, .inl h.ownb, hmap3.keep m4 (fun e => hmap3.ne hobj3 e.symm), h.last, ?_, ?_, ?_, ?_, ?_⟩
  · refine OwnR.kept (S := fun k => Grow S w (w3.setCell ⟨p, 2, none⟩ (.slice va (st.waits.length + 1) vc)) k) ?_ m4 howner (fun _ h => h)
    refine ⟨?_, fun g hg => ?_⟩
    · show w3.ownsRow 0 115 2 _ (st.waits ++ [(k, d)]).length (bufC (st.waits ++ [(k, d)]) (qs ++ [q]))
      rw [hlen, bufC_snoc _ _ _ _ h.len]; exact h2
    · rcases h4 g hg with h5 | h5
      · exact .inl (h.buf.2 g h5)
      · refine .inr ⟨Nat.le_trans hm1.size h5.1, ?_⟩
        rw [hs4]; exact h5.2
  · intro j x q' hx hq'
    have hfar5 : ∀ (q0 : Nat) (l : List UInt8), Blk w1 q0 5 (l.map B) → Blk (w3.setCell ⟨p, 2, none⟩ (.slice va (st.waits.length + 1) vc)) q0 5 (l.map B) := fun q0 l hb => by
      have hb1 : OwnR w1 (fun _ => True) 115 2 bv st.waits.length (bufC st.waits qs) := h.buf.kept hm1 (fun _ _ h => h) (fun _ _ => trivial)
      have hb3 := h3.blk hb (fun e => hb1.far hb (by decide) q0 e rfl)
      exact m4.blk hb3 (Blk.types hb3 hobj3 (by decide))
    have hx' : (st.waits ++ [(k, d)])[j]? = some x := hx
    by_cases hj : j < st.waits.length
    · rw [List.getElem?_append_left hj] at hx'
      rw [List.getElem?_append_left (by rw [h.len]; exact hj)] at hq'
      obtain ⟨a1, a2⟩ := h.dat j x q' hx' hq'
      exact ⟨.inl a1, hfar5 _ _ (hm1.blk a2 (fun h => h))⟩
    · have hj2 : j = st.waits.length := by
        have := (List.getElem?_eq_some_iff.1 hx').1
        rw [hlen] at this; omega
      subst hj2
      rw [List.getElem?_append_right (Nat.le_refl _), Nat.sub_self] at hx'
      rw [← h.len, List.getElem?_append_right (Nat.le_refl _), Nat.sub_self] at hq'
      obtain rfl : (k, d) = x := by simpa using hx'
      obtain rfl : q = q' := by simpa using hq'
      refine ⟨.inr ⟨hq, ?_⟩, hfar5 _ _ hqb⟩
      have := hqb.lt
      have := h3.size
      rw [hs4]; omega
  · rw [List.length_append, h.len]; show _ = (st.waits ++ [(k, d)]).length; rw [hlen]; rfl
  · refine ⟨h.ok.one, h.ok.most, h.ok.sec, fun x hx => ?_, h.ok.arm⟩
    rcases List.mem_append.1 (show x ∈ st.waits ++ [(k, d)] from hx) with hx | hx
    · exact h.ok.wait x hx
    · obtain rfl : x = (k, d) := by simpa using hx
      exact ⟨hk, hd⟩
  · intro j hj
    rcases hj with hj | hj
    · have := h.lt j hj
      rw [hs4]; omega
    · exact hj.2
theorem owns_keep {w w' : World} {base e size : Nat} {v : Value} {n : Nat} {xs : List Value} (h : w.ownsRow base e size v n xs) (hm : Mod None w w') : w'.ownsRow base e size v n xs := by
  obtain ⟨h1, h2⟩ := h
  refine ⟨h1, ?_⟩
  rcases h2 with h2 | ⟨g, cap, cur, rfl, hb, hg, r⟩
  · exact .inl h2
  · exact .inr ⟨g, cap, cur, rfl, hb, by rw [hm.block g (Array.getElem?_eq_some_iff.1 hg).1 (fun h => h)]; exact hg, r⟩
theorem rw_src (w : World) (k q : Nat) : RdV (w.alloc (.cells #[.int .i64 (k : Int), .slice (some ⟨q, 0, none⟩) 64 64] 115)) (some ⟨w.heap.size, 0, none⟩) [.int .i64 (k : Int), .slice (some ⟨q, 0, none⟩) 64 64] :=
  (Blk.new w 115 #[.int .i64 (k : Int), .slice (some ⟨q, 0, none⟩) 64 64]).rdv 0 (fun i _ => by rw [Nat.zero_add])
theorem rw_ones (k q : Nat) : Ones [.int .i64 (k : Int), .slice (some ⟨q, 0, none⟩) 64 64] := by
  intro v hv
  rcases List.mem_cons.1 hv with rfl | hv
  · rfl
  · obtain rfl := List.mem_singleton.1 hv; rfl
set_option maxRecDepth 100000 in
set_option maxHeartbeats 1600000 in
theorem rwrite_any (w : World) (S : Nat → Prop) (p N : Nat) (st : DSt) (h : IsRef w S p N st) (hN : N < 4000000000000) (i : Int) (a : Option Addr) (c : Nat) (d : List UInt8) (hr : Rd w a d) (hd : d.length ≤ 140737488351232) :
    Calls Try.prog 38 #[.pointer (some ⟨p, 0, none⟩), .int .i64 i, .slice a d.length c] w (RWPost S p (N + 1) (st.write i d) w) := by
  have HI := hid h
  obtain ⟨b, n, f, qs, bv, h, hn⟩ := h
  obtain ⟨h0, _, h2, _, h4⟩ := h.cells
  by_cases hdn : st.down = true
  · have HS := hid (show st.write i d = (st, 32) by unfold DSt.write DSt.may; simp [hdn])
    have H := hid h
    rw [hdn] at h4
    clear h hdn hN hd hr
    go_enter Try.func38, Try.ntmps38
    go_wp2
    go_ret
    rw [HS.out]
    exact ⟨rfl, HI.out.grow _ (by omega), Mod.refl _ _⟩
  rw [Bool.not_eq_true] at hdn
  rw [hdn] at h4
  by_cases hi : i < 0
  · have HS := hid (show st.write i d = (st, 31) by unfold DSt.write DSt.may; simp [hdn, hi])
    have H := hid h
    clear h hdn hN hd hr
    go_enter Try.func38, Try.ntmps38
    go_wp2
    go_ret
    rw [HS.out]
    exact ⟨rfl, HI.out.grow _ (by omega), Mod.refl _ _⟩
  by_cases hi2 : (st.last.length : Int) ≤ i
  · have HS := hid (show st.write i d = (st, 31) by unfold DSt.write DSt.may; simp [hdn, hi, hi2])
    have H := hid h
    clear h hdn hN hd hr
    go_enter Try.func38, Try.ntmps38
    go_wp2
    go_ret
    rw [HS.out]
    exact ⟨rfl, HI.out.grow _ (by omega), Mod.refl _ _⟩
  have hmay : st.may i = 0 := by unfold DSt.may; simp [hdn, hi, hi2]
  by_cases hl : 64 < d.length
  · have HS := hid (show st.write i d = (st, 3) by unfold DSt.write; simp [hmay, hl])
    have H := hid h
    have hl' : (64 : Int) < (d.length : Int) := by omega
    clear h hdn hN hd hr hmay
    go_enter Try.func38, Try.ntmps38
    go_wp2
    go_ret
    rw [HS.out]
    exact ⟨rfl, HI.out.grow _ (by omega), Mod.refl _ _⟩
  · obtain ⟨k, rfl⟩ : ∃ k : Nat, i = (k : Int) := ⟨i.toNat, by omega⟩
    have HS := hid (show st.write k d = ((st.put k (pad64 d)).changed, 0) by unfold DSt.write; simp [hmay, hl])
    have hl' : ¬ (64 : Int) < (d.length : Int) := by omega
    have HL := hid (show d.length ≤ 64 by omega)
    have HK := hid (show k < st.last.length by omega)
    have H := hid h
    have HR := hid hr
    have HN := hid (And.intro hn hN)
    have HD := hid hdn
    obtain ⟨ba, bc, rfl, hbc, hbm⟩ := h.shape
    obtain ⟨it, hit, hz, hsz, hby⟩ := info_parts e_info115
    have HEND := hid (fun w1 w3 q va vc hm1 hq hqb h2 h3 h4 => rwrite_end (w1 := w1) (w3 := w3) (k := k) (d := pad64 d) (q := q) (va := va) (vc := vc) h hm1 hq hqb (pad64_length d (by omega)) (by omega) hn h2 h3 h4)
    have HOWN := hid (fun w' (hm : Mod None w w') => owns_keep h.buf.1 hm)
    have HWL := hid (show st.waits.length ≤ 4000000000000 by omega)
    clear h hr hn hN hdn hmay hd hl hi hbc hbm
    generalize hwl : st.waits.length = wl at *
    go_enter Try.func38, Try.ntmps38
    go_wp2_with fail
    refine wp_region_held_drew (S := fun _ => True) (by kernel_rfl) trivial (fun hHeld => ?_)
    refine wpAnyH_take (i := 0) (oi := { dst := some 24, op := Op.move (Operand.tmp 0), type := 55, pos := "ref.go:76", after := #[], guard := none }) (v := ?vo1_0) rfl (by kernel_rfl) (by kernel_rfl) (by kernel_rfl) (fun _ _ _ h => h) (Or.inl ⟨by rfl, ?yo1_0⟩) (by assumption) ?ro1_0
    case yo1_0 => (intro w hSw; (try dsimp only at hSw); go_simp; (try with_reducible rfl))
    try simp only [Act.put, List.setIfInBounds_toArray, List.set_cons_zero, List.set_cons_succ]
    refine wpAnyH_take (i := 1) (oi := { dst := some 25, op := Op.move (Operand.tmp 0), type := 55, pos := "ref.go:76", after := #[], guard := none }) (v := ?vo2_1) rfl (by kernel_rfl) (by kernel_rfl) (by kernel_rfl) (fun _ _ _ h => h) (Or.inl ⟨by rfl, ?yo2_1⟩) (by assumption) ?ro2_1
    case yo2_1 => (intro w hSw; (try dsimp only at hSw); go_simp; (try with_reducible rfl))
    try simp only [Act.put, List.setIfInBounds_toArray, List.set_cons_zero, List.set_cons_succ]
    refine wpAnyH_take (i := 2) (oi := { dst := some 26, op := Op.nilCheck (Operand.tmp 25), type := 0, pos := "ref.go:76", after := #[{ on := 1, ground := Ground.data }], guard := none }) (v := ?vo3_2) rfl (by kernel_rfl) (by kernel_rfl) (by kernel_rfl) (fun _ _ _ h => h) (Or.inl ⟨by rfl, ?yo3_2⟩) (by assumption) ?ro3_2
    case yo3_2 => (intro w hSw; (try dsimp only at hSw); go_simp; (try with_reducible rfl))
    try simp only [Act.put, List.setIfInBounds_toArray, List.set_cons_zero, List.set_cons_succ]
    refine wpAnyH_take (i := 3) (oi := { dst := some 27, op := Op.fieldAddr 113 (Operand.tmp 26) 2, type := 0, pos := "ref.go:76", after := #[{ on := 2, ground := Ground.data }], guard := none }) (v := ?vo4_3) rfl (by kernel_rfl) (by kernel_rfl) (by kernel_rfl) (fun _ _ _ h => h) (Or.inl ⟨by rfl, ?yo4_3⟩) (by assumption) ?ro4_3
    case yo4_3 => (intro w hSw; (try dsimp only at hSw); go_simp; (try with_reducible rfl))
    try simp only [Act.put, List.setIfInBounds_toArray, List.set_cons_zero, List.set_cons_succ]
    refine wpAnyH_take (i := 5) (oi := { dst := some 29, op := Op.move (Operand.tmp 1), type := 3, pos := "ref.go:76", after := #[], guard := none }) (v := ?vo5_5) rfl (by kernel_rfl) (by kernel_rfl) (by kernel_rfl) (fun _ _ _ h => h) (Or.inl ⟨by rfl, ?yo5_5⟩) (by assumption) ?ro5_5
    case yo5_5 => (intro w hSw; (try dsimp only at hSw); go_simp; (try with_reducible rfl))
    try simp only [Act.put, List.setIfInBounds_toArray, List.set_cons_zero, List.set_cons_succ]
    refine wpAnyH_take (i := 6) (oi := { dst := some 30, op := Op.move (Operand.tmp 2), type := 27, pos := "ref.go:76", after := #[], guard := none }) (v := ?vo6_6) rfl (by kernel_rfl) (by kernel_rfl) (by kernel_rfl) (fun _ _ _ h => h) (Or.inl ⟨by rfl, ?yo6_6⟩) (by assumption) ?ro6_6
    case yo6_6 => (intro w hSw; (try dsimp only at hSw); go_simp; (try with_reducible rfl))
    try simp only [Act.put, List.setIfInBounds_toArray, List.set_cons_zero, List.set_cons_succ]
    refine wpAnyH_ready (rs := [4, 7]) (by kernel_rfl) (by simp) ?_
    refine AllReadyH.cons (o := { dst := some 28, op := Op.load 111 (Operand.tmp 27), type := 111, pos := "ref.go:76", after := #[{ on := 3, ground := Ground.data }], guard := none }) rfl (fun K hK => ?_) ?_
    · go_simp
      refine hK.out _ _ trivial (fun hHeld => ?_)
      clear hK K
      try simp only [Act.put, List.setIfInBounds_toArray, List.set_cons_zero, List.set_cons_succ]
      refine wpAnyH_ready (rs := [7]) (by kernel_rfl) (by simp) ?_
      refine AllReadyH.cons (o := { dst := some 31, op := Op.call { callee := Callee.value (Operand.func 34), args := #[Operand.tmp 30], argTypes := #[27] }, type := 27, pos := "ref.go:76", after := #[{ on := 6, ground := Ground.data }], guard := none }) rfl (fun K hK => ?_) AllReadyH.nil
      go_simp; refine (whole_any w.drew a c d HR.out HL.out).mono ?_; rintro e w1 ⟨q0, rfl, hf, hm⟩; obtain ⟨q, rfl, hq, hqb⟩ := hf; have hp2 := (hm.cell (p := ⟨p, 2, none⟩) (World.block_lt_of_cell? w _ h2) (fun h => h)).trans h2; have hp3 := fun o => ((Mod.refl None w1).alloc o).cell (p := ⟨p, 2, none⟩) (World.block_lt_of_cell? w1 _ hp2) (fun h => h) |>.trans hp2; have HM1 := hid ((Mod.refl None w).drew.trans hm); have HQ := hid (And.intro hq hqb); clear hm hq hqb; go_wp2_with fail
      refine hK.out _ _ trivial (fun hHeld => ?_)
      clear hK K
      try simp only [Act.put, List.setIfInBounds_toArray, List.set_cons_zero, List.set_cons_succ]
      refine wpAnyH_take (i := 8) (oi := { dst := some 32, op := Op.build 115 #[(0, Operand.tmp 29), (1, Operand.tmp 31)], type := 115, pos := "ref.go:76", after := #[{ on := 5, ground := Ground.data }, { on := 7, ground := Ground.data }], guard := none }) (v := ?vo7_8) rfl (by kernel_rfl) (by kernel_rfl) (by kernel_rfl) (fun _ _ _ h => h) (Or.inl ⟨by rfl, ?yo7_8⟩) (by assumption) ?ro7_8
      case yo7_8 => (intro w hSw; (try dsimp only at hSw); go_simp; (try with_reducible rfl))
      try simp only [Act.put, List.setIfInBounds_toArray, List.set_cons_zero, List.set_cons_succ]
      refine wpAnyH_ready (rs := [9]) (by kernel_rfl) (by simp) ?_
      refine AllReadyH.cons (o := { dst := some 33, op := Op.buildSlice 111 1 #[(0, Operand.tmp 32)], type := 111, pos := "ref.go:76", after := #[{ on := 8, ground := Ground.data }], guard := none }) rfl (fun K hK => ?_) AllReadyH.nil
      go_simp
      refine hK.out _ _ trivial (fun hHeld => ?_)
      clear hK K
      try simp only [Act.put, List.setIfInBounds_toArray, List.set_cons_zero, List.set_cons_succ]
      refine wpAnyH_ready (rs := [10]) (by kernel_rfl) (by simp) ?_
      refine AllReadyH.cons (o := { dst := some 34, op := Op.call { callee := Callee.builtin Builtin.append, args := #[Operand.tmp 28, Operand.tmp 33], argTypes := #[111, 111] }, type := 111, pos := "ref.go:76", after := #[{ on := 4, ground := Ground.data }, { on := 9, ground := Ground.data }, { on := 7, ground := Ground.chain }], guard := none }) rfl (fun K hK => ?_) AllReadyH.nil
      refine wp_append_R (.tmp 28) (.tmp 33) 111 rfl 115 it (.agg #[.int .i64 0, .slice none 0 0]) 2 32 e_und111 hit hz hsz hby rfl (by decide) (.slice ba wl bc) wl (bufC st.waits qs) rfl (HOWN.out _ (HM1.out.alloc _)) _ 1 1 [.int .i64 (k : Int), .slice (some ⟨q, 0, none⟩) 64 64] rfl rfl (rw_src w1 k q) (rw_ones k q) (by have := HWL.out; unfold maxLen; omega) (by have := HWL.out; omega) ?_; intro va vc w3 g2 g3 g4; have hend := HEND.out _ w3 q va vc (HM1.out.alloc _) HQ.out.1 (HQ.out.2.alloc _) g2.out g3.out g4.out; obtain ⟨e1, e2, e3, e4⟩ := hend; have E3 := hid e3; have E4 := hid e4; clear g2 g3 g4 e3 e4
      refine hK.out _ _ trivial (fun hHeld => ?_)
      clear hK K
      try simp only [Act.put, List.setIfInBounds_toArray, List.set_cons_zero, List.set_cons_succ]
      refine wpAnyH_take (i := 11) (oi := { dst := some 35, op := Op.nilCheck (Operand.tmp 24), type := 0, pos := "ref.go:76", after := #[{ on := 0, ground := Ground.data }, { on := 0, ground := Ground.phase }, { on := 1, ground := Ground.phase }, { on := 2, ground := Ground.phase }, { on := 3, ground := Ground.phase }, { on := 4, ground := Ground.phase }, { on := 5, ground := Ground.phase }, { on := 6, ground := Ground.phase }, { on := 7, ground := Ground.phase }, { on := 8, ground := Ground.phase }, { on := 9, ground := Ground.phase }, { on := 10, ground := Ground.phase }], guard := none }) (v := ?vo8_11) rfl (by kernel_rfl) (by kernel_rfl) (by kernel_rfl) (fun _ _ _ h => h) (Or.inl ⟨by rfl, ?yo8_11⟩) (by assumption) ?ro8_11
      case yo8_11 => (intro w hSw; (try dsimp only at hSw); go_simp; (try with_reducible rfl))
      try simp only [Act.put, List.setIfInBounds_toArray, List.set_cons_zero, List.set_cons_succ]
      refine wpAnyH_take (i := 12) (oi := { dst := some 36, op := Op.fieldAddr 113 (Operand.tmp 35) 2, type := 0, pos := "ref.go:76", after := #[{ on := 11, ground := Ground.data }, { on := 0, ground := Ground.phase }, { on := 1, ground := Ground.phase }, { on := 2, ground := Ground.phase }, { on := 3, ground := Ground.phase }, { on := 4, ground := Ground.phase }, { on := 5, ground := Ground.phase }, { on := 6, ground := Ground.phase }, { on := 7, ground := Ground.phase }, { on := 8, ground := Ground.phase }, { on := 9, ground := Ground.phase }, { on := 10, ground := Ground.phase }], guard := none }) (v := ?vo9_12) rfl (by kernel_rfl) (by kernel_rfl) (by kernel_rfl) (fun _ _ _ h => h) (Or.inl ⟨by rfl, ?yo9_12⟩) (by assumption) ?ro9_12
      case yo9_12 => (intro w hSw; (try dsimp only at hSw); go_simp; (try with_reducible rfl))
      try simp only [Act.put, List.setIfInBounds_toArray, List.set_cons_zero, List.set_cons_succ]
      refine wpAnyH_ready (rs := [13]) (by kernel_rfl) (by simp) ?_
      refine AllReadyH.cons (o := { dst := none, op := Op.store 111 (Operand.tmp 36) (Operand.tmp 34), type := 0, pos := "ref.go:76", after := #[{ on := 12, ground := Ground.data }, { on := 10, ground := Ground.data }, { on := 10, ground := Ground.chain }, { on := 0, ground := Ground.phase }, { on := 1, ground := Ground.phase }, { on := 2, ground := Ground.phase }, { on := 3, ground := Ground.phase }, { on := 4, ground := Ground.phase }, { on := 5, ground := Ground.phase }, { on := 6, ground := Ground.phase }, { on := 7, ground := Ground.phase }, { on := 8, ground := Ground.phase }, { on := 9, ground := Ground.phase }, { on := 10, ground := Ground.phase }], guard := none }) rfl (fun K hK => ?_) AllReadyH.nil
      go_simp
      refine hK.out _ _ trivial (fun hHeld => ?_)
      clear hK K
      try simp only [Act.put, List.setIfInBounds_toArray, List.set_cons_zero, List.set_cons_succ]
      refine wpAnyH_done (by kernel_rfl) ?_ _
      go_wp2_with fail
      refine (change_any _ _ p (N + 1) _ E3.out HD.out).mono ?_
      rintro e w5 ⟨rfl, hd5, hm5⟩
      have HD5 := hid hd5
      have HM5 := hid hm5
      clear hd5 hm5
      go_wp2_with fail
      go_ret
      rw [HS.out]
      exact ⟨rfl, rwrite_fin HD5.out HM5.out.size, E4.out.then HM5.out (fun j _ e => by subst e; exact H.out.own)⟩
    refine AllReadyH.cons (o := { dst := some 31, op := Op.call { callee := Callee.value (Operand.func 34), args := #[Operand.tmp 30], argTypes := #[27] }, type := 27, pos := "ref.go:76", after := #[{ on := 6, ground := Ground.data }], guard := none }) rfl (fun K hK => ?_) AllReadyH.nil
    · go_simp; refine (whole_any w.drew a c d HR.out HL.out).mono ?_; rintro e w1 ⟨q0, rfl, hf, hm⟩; obtain ⟨q, rfl, hq, hqb⟩ := hf; have hp2 := (hm.cell (p := ⟨p, 2, none⟩) (World.block_lt_of_cell? w _ h2) (fun h => h)).trans h2; have hp3 := fun o => ((Mod.refl None w1).alloc o).cell (p := ⟨p, 2, none⟩) (World.block_lt_of_cell? w1 _ hp2) (fun h => h) |>.trans hp2; have HM1 := hid ((Mod.refl None w).drew.trans hm); have HQ := hid (And.intro hq hqb); clear hm hq hqb; go_wp2_with fail
      refine hK.out _ _ trivial (fun hHeld => ?_)
      clear hK K
      try simp only [Act.put, List.setIfInBounds_toArray, List.set_cons_zero, List.set_cons_succ]
      refine wpAnyH_take (i := 8) (oi := { dst := some 32, op := Op.build 115 #[(0, Operand.tmp 29), (1, Operand.tmp 31)], type := 115, pos := "ref.go:76", after := #[{ on := 5, ground := Ground.data }, { on := 7, ground := Ground.data }], guard := none }) (v := ?vo10_8) rfl (by kernel_rfl) (by kernel_rfl) (by kernel_rfl) (fun _ _ _ h => h) (Or.inl ⟨by rfl, ?yo10_8⟩) (by assumption) ?ro10_8
      case yo10_8 => (intro w hSw; (try dsimp only at hSw); go_simp; (try with_reducible rfl))
      try simp only [Act.put, List.setIfInBounds_toArray, List.set_cons_zero, List.set_cons_succ]
      refine wpAnyH_ready (rs := [4, 9]) (by kernel_rfl) (by simp) ?_
      refine AllReadyH.cons (o := { dst := some 28, op := Op.load 111 (Operand.tmp 27), type := 111, pos := "ref.go:76", after := #[{ on := 3, ground := Ground.data }], guard := none }) rfl (fun K hK => ?_) ?_
      · go_simp
        refine hK.out _ _ trivial (fun hHeld => ?_)
        clear hK K
        try simp only [Act.put, List.setIfInBounds_toArray, List.set_cons_zero, List.set_cons_succ]
        refine wpAnyH_ready (rs := [9]) (by kernel_rfl) (by simp) ?_
        refine AllReadyH.cons (o := { dst := some 33, op := Op.buildSlice 111 1 #[(0, Operand.tmp 32)], type := 111, pos := "ref.go:76", after := #[{ on := 8, ground := Ground.data }], guard := none }) rfl (fun K hK => ?_) AllReadyH.nil
        go_simp
        refine hK.out _ _ trivial (fun hHeld => ?_)
        clear hK K
        try simp only [Act.put, List.setIfInBounds_toArray, List.set_cons_zero, List.set_cons_succ]
        refine wpAnyH_ready (rs := [10]) (by kernel_rfl) (by simp) ?_
        refine AllReadyH.cons (o := { dst := some 34, op := Op.call { callee := Callee.builtin Builtin.append, args := #[Operand.tmp 28, Operand.tmp 33], argTypes := #[111, 111] }, type := 111, pos := "ref.go:76", after := #[{ on := 4, ground := Ground.data }, { on := 9, ground := Ground.data }, { on := 7, ground := Ground.chain }], guard := none }) rfl (fun K hK => ?_) AllReadyH.nil
        refine wp_append_R (.tmp 28) (.tmp 33) 111 rfl 115 it (.agg #[.int .i64 0, .slice none 0 0]) 2 32 e_und111 hit hz hsz hby rfl (by decide) (.slice ba wl bc) wl (bufC st.waits qs) rfl (HOWN.out _ (HM1.out.alloc _)) _ 1 1 [.int .i64 (k : Int), .slice (some ⟨q, 0, none⟩) 64 64] rfl rfl (rw_src w1 k q) (rw_ones k q) (by have := HWL.out; unfold maxLen; omega) (by have := HWL.out; omega) ?_; intro va vc w3 g2 g3 g4; have hend := HEND.out _ w3 q va vc (HM1.out.alloc _) HQ.out.1 (HQ.out.2.alloc _) g2.out g3.out g4.out; obtain ⟨e1, e2, e3, e4⟩ := hend; have E3 := hid e3; have E4 := hid e4; clear g2 g3 g4 e3 e4
        refine hK.out _ _ trivial (fun hHeld => ?_)
        clear hK K
        try simp only [Act.put, List.setIfInBounds_toArray, List.set_cons_zero, List.set_cons_succ]
        refine wpAnyH_take (i := 11) (oi := { dst := some 35, op := Op.nilCheck (Operand.tmp 24), type := 0, pos := "ref.go:76", after := #[{ on := 0, ground := Ground.data }, { on := 0, ground := Ground.phase }, { on := 1, ground := Ground.phase }, { on := 2, ground := Ground.phase }, { on := 3, ground := Ground.phase }, { on := 4, ground := Ground.phase }, { on := 5, ground := Ground.phase }, { on := 6, ground := Ground.phase }, { on := 7, ground := Ground.phase }, { on := 8, ground := Ground.phase }, { on := 9, ground := Ground.phase }, { on := 10, ground := Ground.phase }], guard := none }) (v := ?vo11_11) rfl (by kernel_rfl) (by kernel_rfl) (by kernel_rfl) (fun _ _ _ h => h) (Or.inl ⟨by rfl, ?yo11_11⟩) (by assumption) ?ro11_11
        case yo11_11 => (intro w hSw; (try dsimp only at hSw); go_simp; (try with_reducible rfl))
        try simp only [Act.put, List.setIfInBounds_toArray, List.set_cons_zero, List.set_cons_succ]
        refine wpAnyH_take (i := 12) (oi := { dst := some 36, op := Op.fieldAddr 113 (Operand.tmp 35) 2, type := 0, pos := "ref.go:76", after := #[{ on := 11, ground := Ground.data }, { on := 0, ground := Ground.phase }, { on := 1, ground := Ground.phase }, { on := 2, ground := Ground.phase }, { on := 3, ground := Ground.phase }, { on := 4, ground := Ground.phase }, { on := 5, ground := Ground.phase }, { on := 6, ground := Ground.phase }, { on := 7, ground := Ground.phase }, { on := 8, ground := Ground.phase }, { on := 9, ground := Ground.phase }, { on := 10, ground := Ground.phase }], guard := none }) (v := ?vo12_12) rfl (by kernel_rfl) (by kernel_rfl) (by kernel_rfl) (fun _ _ _ h => h) (Or.inl ⟨by rfl, ?yo12_12⟩) (by assumption) ?ro12_12
        case yo12_12 => (intro w hSw; (try dsimp only at hSw); go_simp; (try with_reducible rfl))
        try simp only [Act.put, List.setIfInBounds_toArray, List.set_cons_zero, List.set_cons_succ]
        refine wpAnyH_ready (rs := [13]) (by kernel_rfl) (by simp) ?_
        refine AllReadyH.cons (o := { dst := none, op := Op.store 111 (Operand.tmp 36) (Operand.tmp 34), type := 0, pos := "ref.go:76", after := #[{ on := 12, ground := Ground.data }, { on := 10, ground := Ground.data }, { on := 10, ground := Ground.chain }, { on := 0, ground := Ground.phase }, { on := 1, ground := Ground.phase }, { on := 2, ground := Ground.phase }, { on := 3, ground := Ground.phase }, { on := 4, ground := Ground.phase }, { on := 5, ground := Ground.phase }, { on := 6, ground := Ground.phase }, { on := 7, ground := Ground.phase }, { on := 8, ground := Ground.phase }, { on := 9, ground := Ground.phase }, { on := 10, ground := Ground.phase }], guard := none }) rfl (fun K hK => ?_) AllReadyH.nil
        go_simp
        refine hK.out _ _ trivial (fun hHeld => ?_)
        clear hK K
        try simp only [Act.put, List.setIfInBounds_toArray, List.set_cons_zero, List.set_cons_succ]
        refine wpAnyH_done (by kernel_rfl) ?_ _
        go_wp2_with fail
        refine (change_any _ _ p (N + 1) _ E3.out HD.out).mono ?_
        rintro e w5 ⟨rfl, hd5, hm5⟩
        have HD5 := hid hd5
        have HM5 := hid hm5
        clear hd5 hm5
        go_wp2_with fail
        go_ret
        rw [HS.out]
        exact ⟨rfl, rwrite_fin HD5.out HM5.out.size, E4.out.then HM5.out (fun j _ e => by subst e; exact H.out.own)⟩
      refine AllReadyH.cons (o := { dst := some 33, op := Op.buildSlice 111 1 #[(0, Operand.tmp 32)], type := 111, pos := "ref.go:76", after := #[{ on := 8, ground := Ground.data }], guard := none }) rfl (fun K hK => ?_) AllReadyH.nil
      · go_simp
        refine hK.out _ _ trivial (fun hHeld => ?_)
        clear hK K
        try simp only [Act.put, List.setIfInBounds_toArray, List.set_cons_zero, List.set_cons_succ]
        refine wpAnyH_ready (rs := [4]) (by kernel_rfl) (by simp) ?_
        refine AllReadyH.cons (o := { dst := some 28, op := Op.load 111 (Operand.tmp 27), type := 111, pos := "ref.go:76", after := #[{ on := 3, ground := Ground.data }], guard := none }) rfl (fun K hK => ?_) AllReadyH.nil
        go_simp
        refine hK.out _ _ trivial (fun hHeld => ?_)
        clear hK K
        try simp only [Act.put, List.setIfInBounds_toArray, List.set_cons_zero, List.set_cons_succ]
        refine wpAnyH_ready (rs := [10]) (by kernel_rfl) (by simp) ?_
        refine AllReadyH.cons (o := { dst := some 34, op := Op.call { callee := Callee.builtin Builtin.append, args := #[Operand.tmp 28, Operand.tmp 33], argTypes := #[111, 111] }, type := 111, pos := "ref.go:76", after := #[{ on := 4, ground := Ground.data }, { on := 9, ground := Ground.data }, { on := 7, ground := Ground.chain }], guard := none }) rfl (fun K hK => ?_) AllReadyH.nil
        refine wp_append_R (.tmp 28) (.tmp 33) 111 rfl 115 it (.agg #[.int .i64 0, .slice none 0 0]) 2 32 e_und111 hit hz hsz hby rfl (by decide) (.slice ba wl bc) wl (bufC st.waits qs) rfl (HOWN.out _ (HM1.out.alloc _)) _ 1 1 [.int .i64 (k : Int), .slice (some ⟨q, 0, none⟩) 64 64] rfl rfl (rw_src w1 k q) (rw_ones k q) (by have := HWL.out; unfold maxLen; omega) (by have := HWL.out; omega) ?_; intro va vc w3 g2 g3 g4; have hend := HEND.out _ w3 q va vc (HM1.out.alloc _) HQ.out.1 (HQ.out.2.alloc _) g2.out g3.out g4.out; obtain ⟨e1, e2, e3, e4⟩ := hend; have E3 := hid e3; have E4 := hid e4; clear g2 g3 g4 e3 e4
        refine hK.out _ _ trivial (fun hHeld => ?_)
        clear hK K
        try simp only [Act.put, List.setIfInBounds_toArray, List.set_cons_zero, List.set_cons_succ]
        refine wpAnyH_take (i := 11) (oi := { dst := some 35, op := Op.nilCheck (Operand.tmp 24), type := 0, pos := "ref.go:76", after := #[{ on := 0, ground := Ground.data }, { on := 0, ground := Ground.phase }, { on := 1, ground := Ground.phase }, { on := 2, ground := Ground.phase }, { on := 3, ground := Ground.phase }, { on := 4, ground := Ground.phase }, { on := 5, ground := Ground.phase }, { on := 6, ground := Ground.phase }, { on := 7, ground := Ground.phase }, { on := 8, ground := Ground.phase }, { on := 9, ground := Ground.phase }, { on := 10, ground := Ground.phase }], guard := none }) (v := ?vo13_11) rfl (by kernel_rfl) (by kernel_rfl) (by kernel_rfl) (fun _ _ _ h => h) (Or.inl ⟨by rfl, ?yo13_11⟩) (by assumption) ?ro13_11
        case yo13_11 => (intro w hSw; (try dsimp only at hSw); go_simp; (try with_reducible rfl))
        try simp only [Act.put, List.setIfInBounds_toArray, List.set_cons_zero, List.set_cons_succ]
        refine wpAnyH_take (i := 12) (oi := { dst := some 36, op := Op.fieldAddr 113 (Operand.tmp 35) 2, type := 0, pos := "ref.go:76", after := #[{ on := 11, ground := Ground.data }, { on := 0, ground := Ground.phase }, { on := 1, ground := Ground.phase }, { on := 2, ground := Ground.phase }, { on := 3, ground := Ground.phase }, { on := 4, ground := Ground.phase }, { on := 5, ground := Ground.phase }, { on := 6, ground := Ground.phase }, { on := 7, ground := Ground.phase }, { on := 8, ground := Ground.phase }, { on := 9, ground := Ground.phase }, { on := 10, ground := Ground.phase }], guard := none }) (v := ?vo14_12) rfl (by kernel_rfl) (by kernel_rfl) (by kernel_rfl) (fun _ _ _ h => h) (Or.inl ⟨by rfl, ?yo14_12⟩) (by assumption) ?ro14_12
        case yo14_12 => (intro w hSw; (try dsimp only at hSw); go_simp; (try with_reducible rfl))
        try simp only [Act.put, List.setIfInBounds_toArray, List.set_cons_zero, List.set_cons_succ]
        refine wpAnyH_ready (rs := [13]) (by kernel_rfl) (by simp) ?_
        refine AllReadyH.cons (o := { dst := none, op := Op.store 111 (Operand.tmp 36) (Operand.tmp 34), type := 0, pos := "ref.go:76", after := #[{ on := 12, ground := Ground.data }, { on := 10, ground := Ground.data }, { on := 10, ground := Ground.chain }, { on := 0, ground := Ground.phase }, { on := 1, ground := Ground.phase }, { on := 2, ground := Ground.phase }, { on := 3, ground := Ground.phase }, { on := 4, ground := Ground.phase }, { on := 5, ground := Ground.phase }, { on := 6, ground := Ground.phase }, { on := 7, ground := Ground.phase }, { on := 8, ground := Ground.phase }, { on := 9, ground := Ground.phase }, { on := 10, ground := Ground.phase }], guard := none }) rfl (fun K hK => ?_) AllReadyH.nil
        go_simp
        refine hK.out _ _ trivial (fun hHeld => ?_)
        clear hK K
        try simp only [Act.put, List.setIfInBounds_toArray, List.set_cons_zero, List.set_cons_succ]
        refine wpAnyH_done (by kernel_rfl) ?_ _
        go_wp2_with fail
        refine (change_any _ _ p (N + 1) _ E3.out HD.out).mono ?_
        rintro e w5 ⟨rfl, hd5, hm5⟩
        have HD5 := hid hd5
        have HM5 := hid hm5
        clear hd5 hm5
        go_wp2_with fail
        go_ret
        rw [HS.out]
        exact ⟨rfl, rwrite_fin HD5.out HM5.out.size, E4.out.then HM5.out (fun j _ e => by subst e; exact H.out.own)⟩
end Go.Proofs.Ytdhhpnfdnoaihaa

/-! E7 -/
/- Does a disk tell what the document's does? -/
namespace Go.Proofs.Ytdhhpnfdnoaihaa
open Go.RowKit

theorem wrap_in (n : Int) (h : -9223372036854775808 ≤ n ∧ n ≤ 9223372036854775807) : IntKind.i64.wrap n = n := by
  simp [IntKind.wrap, IntKind.bits, IntKind.signed]; omega
theorem mod_drewN (w : World) (n : Nat) : Mod None w (w.drewN n) := ⟨rfl, rfl, rfl, Nat.le_refl _, fun _ _ _ => rfl⟩
theorem flip_call {k : FuncId} {args : Array Value} {w : World} {v : Value} (h : Calls Try.prog k args w fun e w' => e = .returned v ∧ w = w') : Calls Try.prog k args w fun e w' => e = .returned v ∧ w' = w :=
  h.mono fun _ _ ⟨a, b⟩ => ⟨a, b.symm⟩
set_option maxRecDepth 100000 in
set_option maxHeartbeats 1600000 in
theorem same_any (w : World) (S T : Nat → Prop) (p q N : Nat) (st : DSt) (h : IsDisk w S p st) (hr : IsRef w T q N st) :
    Calls Try.prog 43 #[.pointer (some ⟨p, 0, none⟩), .pointer (some ⟨q, 0, none⟩), .int .i64 5] w fun e w' => e = .returned (.bool true) ∧ Mod None w w' := by
  have HD := hid h
  have HR := hid hr
  obtain ⟨b, n, f, qs, bv, hr, hn⟩ := hr
  obtain ⟨h0, _, h2, _, h4⟩ := hr.cells
  have hok := hr.ok.most
  obtain ⟨ba, bc, rfl, hbc, hbm⟩ := hr.shape
  have C1 := hid (fun m => flip_call (down_any (w.drewN m) S p st (h.keep (mod_drewN w m) (fun _ _ h => h))))
  have C2 := hid (fun m => flip_call (size_any (w.drewN m) S p st (h.keep (mod_drewN w m) (fun _ _ h => h))))
  have C3 := hid (fun m => flip_call (waits_any (w.drewN m) S p st (h.keep (mod_drewN w m) (fun _ _ h => h))))
  have HC := hid (fun w' (hm : Mod None w w') => (hr.keep hm (fun _ _ h => h) (S' := fun k => T k) (fun _ h => h) (fun k hk => Nat.lt_of_lt_of_le (hr.lt k hk) hm.size)).cells.1)
  clear h hr hn hbc hbm
  generalize hl : st.last.length = ln at *
  generalize hw : st.waits.length = wn at *
  generalize hdn : st.down = bd at *
  cases bd
  all_goals
    go_enter Try.func43, Try.ntmps43
    go_wp2_with fail
    go_quiet (first | (go_at_call 31; exact Calls.quiet_of_same (C1.out _)) | (go_at_call 73; exact Calls.quiet_of_same (C2.out _)) | (go_at_call 36; exact Calls.quiet_of_same (C3.out _)))
    go_wp2_with fail
    go_loopw [7] (fun i wr => ∃ z : Int, (-1 ≤ z ∧ z ≤ 6) ∧ i = .int .i64 z ∧ Hid (Mod None w wr)) (fun i _ => (7 - intOf i).toNat)
    case atStart => exact ⟨-1, by omega, rfl, mod_drewN w _⟩
    case round =>
      obtain ⟨z, hz, rfl, hm⟩ := hrel
      have hcell := HC.out wr hm.out
      by_cases h1 : z ≤ (ln : Int)
      · by_cases h2 : z ≤ 5
        · have HRD := hid (read_any wr S p st (HD.out.keep hm.out (fun _ _ h => h)) z)
          have HRR := hid (fun w' (hm' : Mod None w w') => rread_any w' T q N st (HR.out.keep hm' (fun _ _ h => h)) z)
          obtain ⟨l, e, hre⟩ : ∃ l e, st.read z = (l, e) := ⟨_, _, rfl⟩
          rw [hre] at HRD HRR
          have hz1 : IntKind.i64.wrap (z + 1) = z + 1 := wrap_in (z + 1) (by omega)
          clear hre
          go_wp2_with fail
          refine HRD.out.mono ?_
          rintro e2 w2 ⟨a1, rfl, ht, hm2⟩
          have HT1 := hid ht.rd
          have HM2 := hid (hm.out.trans hm2)
          clear ht hm2 HRD
          go_wp2_with fail
          refine (HRR.out w2 HM2.out).mono ?_
          rintro e3 w3 ⟨a2, rfl, ht2, hm3⟩
          have hs1 := str_rd (hm3.rd HT1.out (fun _ _ h => h)) l.length l.length rfl
          have hs2 := str_rd ht2 l.length l.length rfl
          have HM3 := hid (HM2.out.trans hm3)
          clear ht2 hm3 HRR HT1 hcell
          unfold Str at hs1 hs2
          go_wp2_with fail
          go_roundw
          case rel => exact ⟨z + 1, by omega, by go_num, HM3.out⟩
          case measure => simp [intOf]; omega
        · go_wp2_with fail
          go_ret
          exact ⟨rfl, hm.out⟩
      · go_wp2_with fail
        go_ret
        exact ⟨rfl, hm.out⟩
end Go.Proofs.Ytdhhpnfdnoaihaa

/- Blocks of cells, and what a call may have written. -/
import Derived.WalkKit
import Derived.Laws.CopyOwn
namespace Go.Proofs.Ytekobigoekfckaa
open Go.RowKit

theorem hid {p : Prop} (h : p) : Hid p := h
/-- block b is a row of the cells cs, none of them frozen -/
def Blk (w : World) (b : Nat) (t : TypeId) (cs : List Value) : Prop := w.heap[b]? = some (.cells cs.toArray t (0, 0))
theorem Blk.cell {w : World} {b : Nat} {t : TypeId} {cs : List Value} (h : Blk w b t cs) (i : Nat) : w.cell? ⟨b, i, none⟩ = cs[i]? := by
  unfold Blk at h; simp [World.cell?, h]
theorem Blk.cellAt {w : World} {b : Nat} {t : TypeId} {cs : List Value} (h : Blk w b t cs) (i : Nat) (hi : i < cs.length) : w.cell? ⟨b, i, none⟩ = some cs[i] := by
  rw [h.cell]; simp [hi]
theorem Blk.is {w : World} {b : Nat} {t : TypeId} {cs : List Value} (h : Blk w b t cs) {i : Nat} {v : Value} (hi : cs[i]? = some v) : w.cell? ⟨b, i, none⟩ = some v := by
  rw [h.cell, hi]
theorem Blk.free {w : World} {b : Nat} {t : TypeId} {cs : List Value} (h : Blk w b t cs) (i : Nat) : w.frozen? ⟨b, i, none⟩ = false := by
  unfold Blk at h; simp [World.frozen?, h]
theorem Blk.lt {w : World} {b : Nat} {t : TypeId} {cs : List Value} (h : Blk w b t cs) : b < w.heap.size := (Array.getElem?_eq_some_iff.1 h).1
theorem Blk.set {w : World} {b : Nat} {t : TypeId} {cs : List Value} (h : Blk w b t cs) (i : Nat) (v : Value) : Blk (w.setCell ⟨b, i, none⟩ v) b t (cs.set i v) := by
  unfold Blk at *
  rw [heap_setCell_same w b i _ t v h]; simp
theorem Blk.set_other {w : World} {b : Nat} {t : TypeId} {cs : List Value} (h : Blk w b t cs) {a : Addr} (ha : b ≠ a.block) (v : Value) : Blk (w.setCell a v) b t cs := by
  unfold Blk at *
  rw [heap_setCell_other w a b v ha]; exact h
theorem Blk.alloc {w : World} {b : Nat} {t : TypeId} {cs : List Value} (h : Blk w b t cs) (o : Obj) : Blk (w.alloc o) b t cs := by
  have := h.lt
  unfold Blk at *
  rw [Below.heap_alloc w o b this]; exact h
theorem Blk.new (w : World) (t : TypeId) (c : Array Value) : Blk (w.alloc (.cells c t)) w.heap.size t c.toList := by
  unfold Blk; rw [heap_alloc_new]
theorem Blk.drew {w : World} {b : Nat} {t : TypeId} {cs : List Value} (h : Blk w b t cs) : Blk w.drew b t cs := h
theorem Blk.row {w : World} {b : Nat} {t : TypeId} {cs : List Value} (h : Blk w b t cs) (c : Array Value) : Blk (w.setRow b c) b t c.toList := by
  unfold Blk at *
  rw [setRow_heap w b _ c t _ h]
theorem Blk.row_other {w : World} {b : Nat} {t : TypeId} {cs : List Value} (h : Blk w b t cs) {g : Nat} (hg : b ≠ g) (c : Array Value) : Blk (w.setRow g c) b t cs := by
  unfold Blk at *
  rw [setRow_other w g b c hg]; exact h
theorem Blk.uniq {w : World} {b : Nat} {t t' : TypeId} {cs cs' : List Value} (h : Blk w b t cs) (h' : Blk w b t' cs') : t = t' ∧ cs = cs' := by
  unfold Blk at *; rw [h] at h'; simp at h'; exact ⟨h'.2, h'.1⟩

/-- of the blocks that were there only those of S may have turned -/
structure Mod (S : Nat → Prop) (w w' : World) : Prop where
  os : w'.os = w.os
  tape : w'.tape = w.tape
  output : w'.output = w.output
  size : w.heap.size ≤ w'.heap.size
  block : ∀ k, k < w.heap.size → ¬ S k → w'.heap[k]? = w.heap[k]?
def None (_ : Nat) : Prop := False
theorem Mod.refl (S : Nat → Prop) (w : World) : Mod S w w := ⟨rfl, rfl, rfl, Nat.le_refl _, fun _ _ _ => rfl⟩
theorem Mod.trans {S : Nat → Prop} {a b c : World} (h : Mod S a b) (k : Mod S b c) : Mod S a c :=
  ⟨k.os.trans h.os, k.tape.trans h.tape, k.output.trans h.output, Nat.le_trans h.size k.size, fun i hi hs => (k.block i (Nat.lt_of_lt_of_le hi h.size) hs).trans (h.block i hi hs)⟩
/-- the second step may write what is new, too -/
theorem Mod.then {S S' : Nat → Prop} {a b c : World} (h : Mod S a b) (k : Mod S' b c) (hs : ∀ i, i < a.heap.size → S' i → S i) : Mod S a c :=
  ⟨k.os.trans h.os, k.tape.trans h.tape, k.output.trans h.output, Nat.le_trans h.size k.size, fun i hi hn => (k.block i (Nat.lt_of_lt_of_le hi h.size) (fun x => hn (hs i hi x))).trans (h.block i hi hn)⟩
theorem Mod.mono {S S' : Nat → Prop} {a b : World} (h : Mod S a b) (hs : ∀ i, i < a.heap.size → S i → S' i) : Mod S' a b :=
  ⟨h.os, h.tape, h.output, h.size, fun i hi hn => h.block i hi (fun x => hn (hs i hi x))⟩
theorem Mod.drew {S : Nat → Prop} {a b : World} (h : Mod S a b) : Mod S a b.drew := ⟨h.os, h.tape, h.output, h.size, h.block⟩
theorem Mod.alloc {S : Nat → Prop} {a b : World} (h : Mod S a b) (o : Obj) : Mod S a (b.alloc o) :=
  h.trans ⟨rfl, rfl, rfl, by simp, fun k hk _ => Below.heap_alloc _ _ _ hk⟩
theorem Mod.set {S : Nat → Prop} {a b : World} (h : Mod S a b) {p : Addr} (hp : S p.block ∨ a.heap.size ≤ p.block) (u : Value) : Mod S a (b.setCell p u) :=
  h.then (S' := fun k => k = p.block) ⟨rfl, rfl, rfl, by simp, fun k _ hn => Below.heap_setCell _ _ _ _ hn⟩ (fun i hi e => by subst e; rcases hp with hp | hp; exact hp; omega)
theorem Mod.row {S : Nat → Prop} {a b : World} (h : Mod S a b) {g : Nat} (hg : S g ∨ a.heap.size ≤ g) (c : Array Value) : Mod S a (b.setRow g c) :=
  h.then (S' := fun k => k = g) ⟨rfl, rfl, rfl, by simp, fun k _ hn => setRow_other b g k c hn⟩ (fun i hi e => by subst e; rcases hg with hg | hg; exact hg; omega)
theorem Mod.below {w w' : World} {S : Nat → Prop} (h : Mod S w w') (B : Nat) (hB : B ≤ w.heap.size) (hs : ∀ i, S i → B ≤ i) : Below B w w' :=
  ⟨h.os, h.tape, h.output, h.size, fun k hk => h.block k (by omega) (fun x => by have := hs k x; omega)⟩
theorem Below.mod {w w' : World} {B : Nat} (h : Below B w w') (S : Nat → Prop) (hs : ∀ i, i < w.heap.size → B ≤ i → S i) : Mod S w w' :=
  ⟨h.os, h.tape, h.output, h.size, fun k hk hn => h.block k (by apply Classical.byContradiction; intro x; exact hn (hs k hk (by omega)))⟩
theorem Mod.blk {S : Nat → Prop} {w w' : World} (h : Mod S w w') {b : Nat} {t : TypeId} {cs : List Value} (hb : Blk w b t cs) (hn : ¬ S b) : Blk w' b t cs := by
  have := hb.lt
  unfold Blk at *; rw [h.block b this hn]; exact hb
theorem Mod.cell {S : Nat → Prop} {w w' : World} (h : Mod S w w') {p : Addr} (hb : p.block < w.heap.size) (hn : ¬ S p.block) : w'.cell? p = w.cell? p :=
  World.cell?_of_block (w := w) (h.block p.block hb hn)

/-- the cells vs lie at a (nothing is said where there are none) -/
def RdV (w : World) (a : Option Addr) (vs : List Value) : Prop :=
  vs = [] ∨ ∃ b o, a = some ⟨b, o, none⟩ ∧ ∀ i, i < vs.length → w.cell? ⟨b, o + i, none⟩ = vs[i]?
@[go_sem] def B (b : UInt8) : Value := .int .u8 (b.toNat : Int)
/-- bytes that are read -/
def Rd (w : World) (a : Option Addr) (l : List UInt8) : Prop := RdV w a (l.map B)
theorem RdV.lt {w : World} {b o : Nat} {vs : List Value} (h : RdV w (some ⟨b, o, none⟩) vs) (hne : vs ≠ []) : b < w.heap.size := by
  rcases h with h | ⟨b', o', e, hc⟩
  · exact absurd h hne
  · obtain ⟨rfl, rfl⟩ : b = b' ∧ o = o' := by simpa using e
    have h0 : 0 < vs.length := by cases vs with | nil => exact absurd rfl hne | cons => simp
    have := hc 0 h0
    rw [List.getElem?_eq_getElem h0] at this
    exact World.block_lt_of_cell? w _ this
/-- what is read is in blocks that S does not hold -/
def Off (S : Nat → Prop) (a : Option Addr) : Prop := ∀ x, a = some x → ¬ S x.block
theorem Mod.rdv {S : Nat → Prop} {w w' : World} (h : Mod S w w') {a : Option Addr} {vs : List Value} (hr : RdV w a vs) (hn : Off S a) : RdV w' a vs := by
  rcases hr with hr | ⟨b, o, rfl, hc⟩
  · exact .inl hr
  · refine .inr ⟨b, o, rfl, fun i hi => ?_⟩
    have h1 := hc i hi
    rw [h.cell (p := ⟨b, o + i, none⟩) ?_ (hn ⟨b, o, none⟩ rfl)]; exact h1
    rw [List.getElem?_eq_getElem hi] at h1
    exact World.block_lt_of_cell? w _ h1
theorem Mod.rd {S : Nat → Prop} {w w' : World} (h : Mod S w w') {a : Option Addr} {l : List UInt8} (hr : Rd w a l) (hn : Off S a) : Rd w' a l := h.rdv hr hn
theorem Rd.at {w : World} {b o : Nat} {l : List UInt8} (h : ∀ i, i < (l.map B).length → w.cell? ⟨b, o + i, none⟩ = (l.map B)[i]?) (k : Nat) (hk : k < l.length) : w.cell? ⟨b, o + k, none⟩ = some (.int .u8 (l[k].toNat : Int)) := by
  have := h k (by simpa using hk)
  rw [this]; simp [hk, B]
theorem Blk.rdv {w : World} {b : Nat} {t : TypeId} {cs vs : List Value} (h : Blk w b t cs) (o : Nat) (hv : ∀ i, i < vs.length → cs[o + i]? = vs[i]?) : RdV w (some ⟨b, o, none⟩) vs :=
  .inr ⟨b, o, rfl, fun i hi => by rw [h.cell, hv i hi]⟩
end Go.Proofs.Ytekobigoekfckaa

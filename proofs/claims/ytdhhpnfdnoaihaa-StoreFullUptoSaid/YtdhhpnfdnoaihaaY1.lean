import Derived.WalkKit
import Derived.Laws.CopyOwn
import Derived.Deep.Slices
import Derived.SizedLaws
import Derived.OpenShut
import Derived.Lib.SlBytesConst
import Derived.Test.YtdhhpnfdnoaihaaProg
/-! L1 -/
/- Blocks of cells, and what a call may have written. -/
namespace Go.Proofs.Ytdhhpnfdnoaihaa
open Go.RowKit

theorem hid {p : Prop} (h : p) : Hid p := h
/-- block b is a row of the cells cs, none of them frozen -/
def Blk (w : World) (b : Nat) (t : TypeId) (cs : List Value) : Prop := w.heap[b]? = some (.cells cs.toArray t (0, 0))
theorem Blk.cell {w : World} {b : Nat} {t : TypeId} {cs : List Value} (h : Blk w b t cs) (i : Nat) : w.cell? ⟨b, i, none⟩ = cs[i]? := by
  unfold Blk at h; simp [World.cell?, h]
theorem Blk.cellAt {w : World} {b : Nat} {t : TypeId} {cs : List Value} (h : Blk w b t cs) (i : Nat) (hi : i < cs.length) : w.cell? ⟨b, i, none⟩ = some cs[i] := by
  rw [h.cell]; simp [hi]
theorem Blk.is {w : World} {b : Nat} {t : TypeId} {cs : List Value} (h : Blk w b t cs) {i : Nat} {v : Value} (hi : cs[i]? = some v) : w.cell? ⟨b, i, none⟩ = some v := by
  rw [h.cell, hi]
theorem Blk.free {w : World} {b : Nat} {t : TypeId} {cs : List Value} (h : Blk w b t cs) (i : Nat) : w.frozen? ⟨b, i, none⟩ = false := by
  unfold Blk at h; simp [World.frozen?, h]
theorem Blk.lt {w : World} {b : Nat} {t : TypeId} {cs : List Value} (h : Blk w b t cs) : b < w.heap.size := (Array.getElem?_eq_some_iff.1 h).1
theorem Blk.set {w : World} {b : Nat} {t : TypeId} {cs : List Value} (h : Blk w b t cs) (i : Nat) (v : Value) : Blk (w.setCell ⟨b, i, none⟩ v) b t (cs.set i v) := by
  unfold Blk at *
  rw [heap_setCell_same w b i _ t v h]; simp
theorem Blk.set_other {w : World} {b : Nat} {t : TypeId} {cs : List Value} (h : Blk w b t cs) {a : Addr} (ha : b ≠ a.block) (v : Value) : Blk (w.setCell a v) b t cs := by
  unfold Blk at *
  rw [heap_setCell_other w a b v ha]; exact h
theorem Blk.alloc {w : World} {b : Nat} {t : TypeId} {cs : List Value} (h : Blk w b t cs) (o : Obj) : Blk (w.alloc o) b t cs := by
  have := h.lt
  unfold Blk at *
  rw [Below.heap_alloc w o b this]; exact h
theorem Blk.new (w : World) (t : TypeId) (c : Array Value) : Blk (w.alloc (.cells c t)) w.heap.size t c.toList := by
  unfold Blk; rw [heap_alloc_new]
theorem Blk.drew {w : World} {b : Nat} {t : TypeId} {cs : List Value} (h : Blk w b t cs) : Blk w.drew b t cs := h
theorem Blk.row {w : World} {b : Nat} {t : TypeId} {cs : List Value} (h : Blk w b t cs) (c : Array Value) : Blk (w.setRow b c) b t c.toList := by
  unfold Blk at *
  rw [setRow_heap w b _ c t _ h]
theorem Blk.row_other {w : World} {b : Nat} {t : TypeId} {cs : List Value} (h : Blk w b t cs) {g : Nat} (hg : b ≠ g) (c : Array Value) : Blk (w.setRow g c) b t cs := by
  unfold Blk at *
  rw [setRow_other w g b c hg]; exact h
theorem Blk.uniq {w : World} {b : Nat} {t t' : TypeId} {cs cs' : List Value} (h : Blk w b t cs) (h' : Blk w b t' cs') : t = t' ∧ cs = cs' := by
  unfold Blk at *; rw [h] at h'; simp at h'; exact ⟨h'.2, h'.1⟩

/-- of the blocks that were there only those of S may have turned -/
structure Mod (S : Nat → Prop) (w w' : World) : Prop where
  os : w'.os = w.os
  tape : w'.tape = w.tape
  output : w'.output = w.output
  size : w.heap.size ≤ w'.heap.size
  block : ∀ k, k < w.heap.size → ¬ S k → w'.heap[k]? = w.heap[k]?
def None (_ : Nat) : Prop := False
theorem Mod.refl (S : Nat → Prop) (w : World) : Mod S w w := ⟨rfl, rfl, rfl, Nat.le_refl _, fun _ _ _ => rfl⟩
theorem Mod.trans {S : Nat → Prop} {a b c : World} (h : Mod S a b) (k : Mod S b c) : Mod S a c :=
  ⟨k.os.trans h.os, k.tape.trans h.tape, k.output.trans h.output, Nat.le_trans h.size k.size, fun i hi hs => (k.block i (Nat.lt_of_lt_of_le hi h.size) hs).trans (h.block i hi hs)⟩
/-- the second step may write what is new, too -/
theorem Mod.then {S S' : Nat → Prop} {a b c : World} (h : Mod S a b) (k : Mod S' b c) (hs : ∀ i, i < a.heap.size → S' i → S i) : Mod S a c :=
  ⟨k.os.trans h.os, k.tape.trans h.tape, k.output.trans h.output, Nat.le_trans h.size k.size, fun i hi hn => (k.block i (Nat.lt_of_lt_of_le hi h.size) (fun x => hn (hs i hi x))).trans (h.block i hi hn)⟩
theorem Mod.mono {S S' : Nat → Prop} {a b : World} (h : Mod S a b) (hs : ∀ i, i < a.heap.size → S i → S' i) : Mod S' a b :=
  ⟨h.os, h.tape, h.output, h.size, fun i hi hn => h.block i hi (fun x => hn (hs i hi x))⟩
theorem Mod.drew {S : Nat → Prop} {a b : World} (h : Mod S a b) : Mod S a b.drew := ⟨h.os, h.tape, h.output, h.size, h.block⟩
theorem Mod.alloc {S : Nat → Prop} {a b : World} (h : Mod S a b) (o : Obj) : Mod S a (b.alloc o) :=
  h.trans ⟨rfl, rfl, rfl, by simp, fun k hk _ => Below.heap_alloc _ _ _ hk⟩
theorem Mod.set {S : Nat → Prop} {a b : World} (h : Mod S a b) {p : Addr} (hp : S p.block ∨ a.heap.size ≤ p.block) (u : Value) : Mod S a (b.setCell p u) :=
  h.then (S' := fun k => k = p.block) ⟨rfl, rfl, rfl, by simp, fun k _ hn => Below.heap_setCell _ _ _ _ hn⟩ (fun i hi e => by subst e; rcases hp with hp | hp; exact hp; omega)
theorem Mod.row {S : Nat → Prop} {a b : World} (h : Mod S a b) {g : Nat} (hg : S g ∨ a.heap.size ≤ g) (c : Array Value) : Mod S a (b.setRow g c) :=
  h.then (S' := fun k => k = g) ⟨rfl, rfl, rfl, by simp, fun k _ hn => setRow_other b g k c hn⟩ (fun i hi e => by subst e; rcases hg with hg | hg; exact hg; omega)
theorem Mod.below {w w' : World} {S : Nat → Prop} (h : Mod S w w') (B : Nat) (hB : B ≤ w.heap.size) (hs : ∀ i, S i → B ≤ i) : Below B w w' :=
  ⟨h.os, h.tape, h.output, h.size, fun k hk => h.block k (by omega) (fun x => by have := hs k x; omega)⟩
theorem Below.mod {w w' : World} {B : Nat} (h : Below B w w') (S : Nat → Prop) (hs : ∀ i, i < w.heap.size → B ≤ i → S i) : Mod S w w' :=
  ⟨h.os, h.tape, h.output, h.size, fun k hk hn => h.block k (by apply Classical.byContradiction; intro x; exact hn (hs k hk (by omega)))⟩
theorem Mod.blk {S : Nat → Prop} {w w' : World} (h : Mod S w w') {b : Nat} {t : TypeId} {cs : List Value} (hb : Blk w b t cs) (hn : ¬ S b) : Blk w' b t cs := by
  have := hb.lt
  unfold Blk at *; rw [h.block b this hn]; exact hb
theorem Mod.cell {S : Nat → Prop} {w w' : World} (h : Mod S w w') {p : Addr} (hb : p.block < w.heap.size) (hn : ¬ S p.block) : w'.cell? p = w.cell? p :=
  World.cell?_of_block (w := w) (h.block p.block hb hn)

/-- the cells vs lie at a (nothing is said where there are none) -/
def RdV (w : World) (a : Option Addr) (vs : List Value) : Prop :=
  vs = [] ∨ ∃ b o, a = some ⟨b, o, none⟩ ∧ ∀ i, i < vs.length → w.cell? ⟨b, o + i, none⟩ = vs[i]?
@[go_sem] def B (b : UInt8) : Value := .int .u8 (b.toNat : Int)
/-- bytes that are read -/
def Rd (w : World) (a : Option Addr) (l : List UInt8) : Prop := RdV w a (l.map B)
theorem RdV.lt {w : World} {b o : Nat} {vs : List Value} (h : RdV w (some ⟨b, o, none⟩) vs) (hne : vs ≠ []) : b < w.heap.size := by
  rcases h with h | ⟨b', o', e, hc⟩
  · exact absurd h hne
  · obtain ⟨rfl, rfl⟩ : b = b' ∧ o = o' := by simpa using e
    have h0 : 0 < vs.length := by cases vs with | nil => exact absurd rfl hne | cons => simp
    have := hc 0 h0
    rw [List.getElem?_eq_getElem h0] at this
    exact World.block_lt_of_cell? w _ this
/-- what is read is in blocks that S does not hold -/
def Off (S : Nat → Prop) (a : Option Addr) : Prop := ∀ x, a = some x → ¬ S x.block
theorem Mod.rdv {S : Nat → Prop} {w w' : World} (h : Mod S w w') {a : Option Addr} {vs : List Value} (hr : RdV w a vs) (hn : Off S a) : RdV w' a vs := by
  rcases hr with hr | ⟨b, o, rfl, hc⟩
  · exact .inl hr
  · refine .inr ⟨b, o, rfl, fun i hi => ?_⟩
    have h1 := hc i hi
    rw [h.cell (p := ⟨b, o + i, none⟩) ?_ (hn ⟨b, o, none⟩ rfl)]; exact h1
    rw [List.getElem?_eq_getElem hi] at h1
    exact World.block_lt_of_cell? w _ h1
theorem Mod.rd {S : Nat → Prop} {w w' : World} (h : Mod S w w') {a : Option Addr} {l : List UInt8} (hr : Rd w a l) (hn : Off S a) : Rd w' a l := h.rdv hr hn
theorem Rd.at {w : World} {b o : Nat} {l : List UInt8} (h : ∀ i, i < (l.map B).length → w.cell? ⟨b, o + i, none⟩ = (l.map B)[i]?) (k : Nat) (hk : k < l.length) : w.cell? ⟨b, o + k, none⟩ = some (.int .u8 (l[k].toNat : Int)) := by
  have := h k (by simpa using hk)
  rw [this]; simp [hk, B]
theorem Blk.rdv {w : World} {b : Nat} {t : TypeId} {cs vs : List Value} (h : Blk w b t cs) (o : Nat) (hv : ∀ i, i < vs.length → cs[o + i]? = vs[i]?) : RdV w (some ⟨b, o, none⟩) vs :=
  .inr ⟨b, o, rfl, fun i hi => by rw [h.cell, hv i hi]⟩
end Go.Proofs.Ytdhhpnfdnoaihaa

/-! L2 -/
/- append onto a slice of the call's own, from whatever is read. -/
namespace Go.Proofs.Ytdhhpnfdnoaihaa
open Go.RowKit

section
variable {P : Program} {w : World}
theorem run_append_owned_none' (base : Nat) (t ty e : TypeId) (i : TypeInfo) (size : Nat) (ht : P.underlying t = some (.slice e)) (hi : P.info? e = some i)
    (v : Value) (n : Nat) (xs : List Value) (hown : w.ownsRow base e size v n xs) (c : Nat) :
    (Builtin.append_ #[t, t] ty #[v, .slice none 0 c]).run P w = .ok v w := by
  rcases hown.2 with ⟨rfl, rfl⟩ | ⟨g, cap, cur, rfl, _, _, hnc, _⟩
  · simp [Builtin.append_, run_underlying ht, sizeOf, typeInfo, hi, Builtin.lenOf, Builtin.firstCells]
  · simp [Builtin.append_, run_underlying ht, sizeOf, typeInfo, hi, Builtin.lenOf, Builtin.firstCells, hnc, storeCells]
theorem addr_add (b o j : Nat) : (⟨b, o, none⟩ : Addr).add j = ⟨b, o + j, none⟩ := by
  unfold Addr.add
  split
  · rename_i h; subst h; rfl
  · rfl
theorem run_append_rd (base : Nat) (t ty e : TypeId) (i : TypeInfo) (z : Value) (size bytes : Nat) (ht : P.underlying t = some (.slice e)) (hi : P.info? e = some i) (hz : i.zero = some z)
    (hsize : i.size = size) (hby : i.bytes = bytes) (hzs : z.cells.size = size) (hsz : 0 < size)
    (v : Value) (n : Nat) (xs : List Value) (hown : w.ownsRow base e size v n xs)
    (sa : Option Addr) (m c : Nat) (news : List Value) (hl : news.length = m * size) (hr : RdV w sa news) (h1 : ∀ u ∈ news, u.oneCell' = true)
    (h63 : n + m ≤ maxLen) (hbytes : (n + m) * bytes ≤ 140737488355328) (hbase : base ≤ w.heap.size) :
    ∃ v' w', (Builtin.append_ #[t, t] ty #[v, .slice sa m c]).run P w = .ok v' w' ∧ w'.ownsRow base e size v' (n + m) (xs ++ news) ∧ w.grownBy w' v.ownBlock := by
  cases sa with
  | none =>
    have hn : news = [] := by
      rcases hr with h | ⟨_, _, h, _⟩
      · exact h
      · cases h
    subst hn
    obtain rfl : m = 0 := by
      have : m * size = 0 := by simpa using hl.symm
      rcases Nat.mul_eq_zero.1 this with h | h
      · exact h
      · omega
    exact ⟨v, w, run_append_owned_none' base t ty e i size ht hi v n xs hown c, by simpa using hown, ⟨rfl, rfl, rfl, Nat.le_refl _, fun _ _ _ => rfl⟩⟩
  | some a =>
    have hnews : ∀ j u, news[j]? = some u → w.cell? (a.add j) = some u := by
      intro j u hj
      rcases hr with h | ⟨b, o, h, hc⟩
      · subst h; simp at hj
      · cases h
        have hlt : j < news.length := by
          rcases Nat.lt_or_ge j news.length with h | h
          · exact h
          · rw [List.getElem?_eq_none h] at hj; cases hj
        rw [addr_add, hc j hlt, hj]
    obtain ⟨v', w', h2, h3, h4, _⟩ := run_append_own (P := P) w base t ty e i z size bytes ht hi hz hsize hby hzs hsz v n xs hown a m c news hl hnews h1 h63 hbytes hbase
    exact ⟨v', w', h2, h3, h4⟩
theorem wp_append_rd {o : Oper} {a : Act} {K : Act → World → Prop} {Q : Exit → Act → World → Prop} (s x : Operand) (t : TypeId)
    (ho : o.op = .call { callee := .builtin .append, args := #[s, x], argTypes := #[t, t] })
    (base : Nat) (e : TypeId) (i : TypeInfo) (z : Value) (size bytes : Nat) (ht : P.underlying t = some (.slice e)) (hi : P.info? e = some i) (hz : i.zero = some z)
    (hsize : i.size = size) (hby : i.bytes = bytes) (hzs : z.cells.size = size) (hsz : 0 < size)
    (v : Value) (n : Nat) (xs : List Value) (hs : a.eval s = v) (hown : w.ownsRow base e size v n xs)
    (sa : Option Addr) (m c : Nat) (news : List Value) (hx : a.eval x = .slice sa m c) (hl : news.length = m * size) (hr : RdV w sa news) (h1 : ∀ u ∈ news, u.oneCell' = true)
    (h63 : n + m ≤ maxLen) (hbytes : (n + m) * bytes ≤ 140737488355328) (hbase : base ≤ w.heap.size)
    (h : ∀ v' w', w'.ownsRow base e size v' (n + m) (xs ++ news) → w.grownBy w' v.ownBlock → K (a.put o.dst v') w') : o.wp P a w K Q := by
  obtain ⟨v', w', hr, h2, h3⟩ := run_append_rd (P := P) base t o.type e i z size bytes ht hi hz hsize hby hzs hsz v n xs hown sa m c news hl hr h1 h63 hbytes hbase
  unfold Oper.wp execOp
  simp only [ho, resolve, invoke, builtin, Sem.run_bind, Sem.run_pure, Result.andThen_ok, List.map_toArray, List.map_cons, List.map_nil, hs, hx, hr]
  exact h v' w' h2 h3
theorem wpList_append_rd {ops : Array Oper} {rest : List Oper} {o : Oper} {a : Act} {Q : Exit → Act → World → Prop} (hgd : o.guard = none) (s x : Operand) (t : TypeId)
    (ho : o.op = .call { callee := .builtin .append, args := #[s, x], argTypes := #[t, t] })
    (base : Nat) (e : TypeId) (i : TypeInfo) (z : Value) (size bytes : Nat) (ht : P.underlying t = some (.slice e)) (hi : P.info? e = some i) (hz : i.zero = some z)
    (hsize : i.size = size) (hby : i.bytes = bytes) (hzs : z.cells.size = size) (hsz : 0 < size)
    (v : Value) (n : Nat) (xs : List Value) (hs : a.eval s = v) (hown : w.ownsRow base e size v n xs)
    (sa : Option Addr) (m c : Nat) (news : List Value) (hx : a.eval x = .slice sa m c) (hl : news.length = m * size) (hr : RdV w sa news) (h1 : ∀ u ∈ news, u.oneCell' = true)
    (h63 : n + m ≤ maxLen) (hbytes : (n + m) * bytes ≤ 140737488355328) (hbase : base ≤ w.heap.size)
    (h : ∀ v' w', w'.ownsRow base e size v' (n + m) (xs ++ news) → w.grownBy w' v.ownBlock → wpList P ops Q rest (a.put o.dst v') w') : wpList P ops Q (o :: rest) a w :=
  wpList_plain hgd fun _ hK => wp_append_rd s x t ho base e i z size bytes ht hi hz hsize hby hzs hsz v n xs hs hown sa m c news hx hl hr h1 h63 hbytes hbase fun v' w' h2 h3 => hK _ _ (h v' w' h2 h3)
end

/-- a slice of bytes of the call's own (blocks from 'base' on) -/
def OwnB (w : World) (base : Nat) (v : Value) (l : List UInt8) : Prop := w.ownsRow base 5 1 v l.length (l.map B)
theorem OwnB.nil (w : World) (base : Nat) : OwnB w base (.slice none 0 0) [] := World.ownsRow_nil _ _ _ _
theorem OwnB.rd {w : World} {base : Nat} {v : Value} {l : List UInt8} (h : OwnB w base v l) : ∃ a c, v = .slice a l.length c ∧ Rd w a l := by
  obtain ⟨h1, h2⟩ := h
  rcases h2 with ⟨rfl, h0⟩ | ⟨g, cap, cur, rfl, _, hg, hn, _, hs, ht⟩
  · obtain rfl : l = [] := List.eq_nil_of_length_eq_zero h0
    exact ⟨none, 0, rfl, .inl rfl⟩
  · refine ⟨_, cap, rfl, .inr ⟨g, 0, rfl, fun i hi => ?_⟩⟩
    rw [Nat.zero_add]
    have hc : w.cell? ⟨g, i, none⟩ = cur[i]? := by simp [World.cell?, hg]
    rw [hc, ← ht]
    have hi' : i < l.length * 1 := by simpa using hi
    simp only [Nat.mul_one] at hi' ⊢
    rw [List.getElem?_take, if_pos hi']; simp
theorem B_one (l : List UInt8) : ∀ u ∈ l.map B, u.oneCell' = true := by
  intro u hu
  obtain ⟨b, _, rfl⟩ := List.mem_map.1 hu; rfl
theorem l_und27 : Try.prog.underlying 27 = some (.slice 5) := by kernel_rfl
theorem l_info5 : (Try.prog.info? 5).map (fun i => (i.zero, i.size, i.bytes)) = some (some (.int .u8 0), 1, 1) := by kernel_rfl
/-- append(dst, src...), both bytes, dst the call's own -/
theorem wpList_append_b {w : World} {ops : Array Oper} {rest : List Oper} {o : Oper} {a : Act} {Q : Exit → Act → World → Prop} (hgd : o.guard = none) (s x : Operand)
    (ho : o.op = .call { callee := .builtin .append, args := #[s, x], argTypes := #[27, 27] })
    (base : Nat) (v : Value) (l : List UInt8) (hs : a.eval s = v) (hown : OwnB w base v l)
    (sa : Option Addr) (m : List UInt8) (n c : Nat) (hn : n = m.length) (hx : a.eval x = .slice sa n c) (hr : Rd w sa m) (hb : l.length + m.length ≤ 140737488355328) (hbase : base ≤ w.heap.size)
    (h : ∀ v' w', OwnB w' base v' (l ++ m) → w.grownBy w' v.ownBlock → wpList Try.prog ops Q rest (a.put o.dst v') w') : wpList Try.prog ops Q (o :: rest) a w := by
  subst hn
  obtain ⟨i, hi, hz, h1, h2⟩ := info_parts l_info5
  refine wpList_append_rd hgd s x 27 ho base 5 i (.int .u8 0) 1 1 l_und27 hi hz h1 h2 rfl (by decide) v l.length (l.map B) hs hown sa m.length c (m.map B) hx (by simp) hr (B_one m) (by unfold maxLen; omega) (by omega) hbase ?_
  intro v' w' h3 h4
  refine h v' w' ?_ h4
  unfold OwnB
  rw [List.map_append, List.length_append]; exact h3
theorem OwnB.kept {w w' : World} {base : Nat} {v : Value} {l : List UInt8} (h : OwnB w base v l) {S : Nat → Prop} (hm : Mod S w w') (hS : ∀ k, v.ownBlock = some k → ¬ S k) : OwnB w' base v l := by
  obtain ⟨h1, h2⟩ := h
  refine ⟨h1, ?_⟩
  rcases h2 with h2 | ⟨g, cap, cur, rfl, hb, hg, r⟩
  · exact .inl h2
  · refine .inr ⟨g, cap, cur, rfl, hb, ?_, r⟩
    rw [hm.block g (Array.getElem?_eq_some_iff.1 hg).1 (hS g rfl)]; exact hg
theorem OwnB.lt {w : World} {base : Nat} {v : Value} {l : List UInt8} (h : OwnB w base v l) (k : Nat) (hk : v.ownBlock = some k) : base ≤ k ∧ k < w.heap.size := World.ownsRow.lt h k hk
theorem OwnB.cap {w : World} {base : Nat} {a : Option Addr} {n c : Nat} {l : List UInt8} (h : OwnB w base (.slice a n c) l) : l.length ≤ c := by
  rcases h.2 with ⟨e, h0⟩ | ⟨g, cap, cur, e, _, _, hn, _⟩
  · rw [h0]; exact Nat.zero_le _
  · cases e; exact hn
theorem OwnB.opened {w : World} {base : Nat} {a : Option Addr} {n c : Nat} {l : List UInt8} (h : OwnB w base (.slice a n c) l) (hne : 0 < l.length) :
    ∃ g rest, a = some ⟨g, 0, none⟩ ∧ n = l.length ∧ base ≤ g ∧ Blk w g 5 (l.map B ++ rest) := by
  rcases h.2 with ⟨e, h0⟩ | ⟨g, cap, cur, e, hb, hg, hn, _, _, ht⟩
  · omega
  · cases e
    refine ⟨g, cur.toList.drop (l.length * 1), rfl, rfl, hb, ?_⟩
    unfold Blk
    rw [hg, ← ht, List.take_append_drop]
theorem grown_mod {w w' : World} {row : Option Nat} (h : w.grownBy w' row) {S : Nat → Prop} (hS : ∀ k, row = some k → k < w.heap.size → S k) : Mod S w w' :=
  ⟨h.os, h.tape, h.output, h.size, fun k hk hn => h.block k hk (fun e => hn (hS k e.symm hk))⟩
/-- the same, with what is known behind it hidden from the walk -/
theorem wpList_append_b2 {w : World} {ops : Array Oper} {rest : List Oper} {o : Oper} {a : Act} {Q : Exit → Act → World → Prop} (hgd : o.guard = none) (s x : Operand)
    (ho : o.op = .call { callee := .builtin .append, args := #[s, x], argTypes := #[27, 27] })
    (base : Nat) (v : Value) (l : List UInt8) (hs : a.eval s = v) (hown : OwnB w base v l)
    (sa : Option Addr) (m : List UInt8) (n c : Nat) (hn : n = m.length) (hx : a.eval x = .slice sa n c) (hr : Rd w sa m) (hb : l.length + m.length ≤ 140737488355328) (hbase : base ≤ w.heap.size)
    (lm : List UInt8) (hlm : lm = l ++ m) (n2 : Nat) (hn2 : n2 = lm.length) (S0 : Nat → Prop) (w0 : World) (hm0 : Mod S0 w0 w) (hw0 : w0.heap.size ≤ base)
    (h : ∀ va vc w', Hid (OwnB w' base (.slice va n2 vc) lm) → Hid (Mod S0 w0 w') → wpList Try.prog ops Q rest (a.put o.dst (.slice va n2 vc)) w') : wpList Try.prog ops Q (o :: rest) a w := by
  subst hlm hn2
  refine wpList_append_b hgd s x ho base v l hs hown sa m n c hn hx hr hb hbase fun v' w' h1 h2 => ?_
  obtain ⟨va, vc, rfl, _⟩ := h1.rd
  exact h va vc w' h1 (hm0.then (S' := fun k => base ≤ k) (grown_mod h2 (fun k hk _ => (hown.lt k hk).1)) (fun i hi hb => by omega))
end Go.Proofs.Ytdhhpnfdnoaihaa

/-! V1 -/
/- How arguments read: slices, strings, structs. -/
namespace Go.Proofs.Ytdhhpnfdnoaihaa
open Go.RowKit

def Small {H : Type} (t : TypeId) (d : DataW H) : Prop := ∀ x ∈ d.weights Try.prog t, x ≤ reachBytes
theorem small_of {H : Type} {ts : List TypeId} {ds : List (DataW H)} (h : (DataW.weightsEach Try.prog ts ds).all (· ≤ reachBytes) = true) {j : Nat} {t : TypeId} {d : DataW H} (ht : ts[j]? = some t) (hd : ds[j]? = some d) : Small t d := by
  intro x hx
  have := List.all_eq_true.1 h x (DataW.weights_mem_each ht hd x hx)
  simpa using this

theorem add_mk (b o k : Nat) : (⟨b, o, none⟩ : Addr).add k = ⟨b, o + k, none⟩ := by
  unfold Addr.add
  split
  · rename_i h; subst h; rfl
  · rfl
/-- a row of elements of 'size' cells, each of which E tells -/
def Seen {α : Type} (w : World) (size : Nat) (E : List Value → α → Prop) (a : Option Addr) (xs : List α) : Prop :=
  xs = [] ∨ ∃ b o, a = some ⟨b, o, none⟩ ∧ ∀ i (h : i < xs.length), ∃ cs : List Value, cs.length = size ∧ E cs xs[i] ∧ ∀ j, j < size → w.cell? ⟨b, o + (i * size + j), none⟩ = cs[j]?

section
variable {H : Type} {enc : TypeId × Value → H} {w : World}
noncomputable abbrev Rdg (enc : TypeId × Value → H) (w : World) (n : Nat) (t : TypeId) (cs : List Value) := DataW.trod enc Try.prog w 0 (fun _ => true) true n t cs

theorem weights_elem {t e : TypeId} {elems spare : List (DataW H)} (ht : Try.prog.underlying t = some (.slice e)) (hs : Small t (.slice elems spare)) : (elems.length + spare.length) * Try.prog.bytesOf e ≤ reachBytes ∧ ∀ d, d ∈ elems → Small e d := by
  constructor
  · exact hs _ (by simp [DataW.weights, ht])
  · intro d hd x hx
    refine hs x ?_
    simp only [DataW.weights, ht, List.mem_cons, List.mem_append]
    right; left
    clear hs
    induction elems with
    | nil => simp at hd
    | cons y ys ih =>
      simp only [DataW.weightsAll, List.mem_append]
      rcases List.mem_cons.1 hd with rfl | hd
      · exact .inl hx
      · exact .inr (ih hd)

theorem view_slice {α : Type} [Inhabited α] {t e : TypeId} {size bytes : Nat} (ht : Try.prog.underlying t = some (.slice e)) (hc : Try.prog.cellsOf e = size) (hsz : 0 < size) (hb : Try.prog.bytesOf e = bytes) (E : List Value → α → Prop)
    (hE : ∀ n cs d ps, Rdg enc w n e cs = some (d, ps) → Small e d → ∃ x, E cs x) {n : Nat} {v : Value} {d : DataW H} {ps : List MemPlace} (h : Rdg enc w n t v.cells.toList = some (d, ps)) (hz : Small t d)
    (hv : ∃ a l c, v = .slice a l c) :
    ∃ a cap xs, v = .slice a (List.length xs) cap ∧ List.length xs * bytes ≤ 140737488351232 ∧ Seen w size E a xs := by
  obtain ⟨a, len, cap, rfl⟩ := hv
  rcases Deep.open_slice ht h with ⟨hcs, _⟩ | ⟨a', l', c', m, n', D, Pl, hcs, _, hl, hm, hmm, hx, hel⟩
  · simp [Value.cells] at hcs
    obtain ⟨rfl, rfl, rfl⟩ := hcs
    exact ⟨none, 0, [], rfl, by simp, .inl rfl⟩
  · simp [Value.cells] at hcs
    obtain ⟨rfl, rfl, rfl⟩ := hcs
    simp only [if_true] at hmm
    subst hmm
    simp only [Prod.mk.injEq] at hx
    obtain ⟨rfl, _⟩ := hx
    obtain ⟨hw, hsm⟩ := weights_elem ht hz
    simp only [List.length_map, List.length_range, hb] at hw
    have hreach : reachBytes = 140737488351232 := by decide
    have hlen : len * bytes ≤ 140737488351232 := by
      rw [← hreach]
      exact Nat.le_trans (Nat.mul_le_mul_right _ (Nat.le_add_right _ _)) hw
    have hall : ∀ i, i < len → ∃ x, ∃ cs : List Value, cs.length = size ∧ E cs x ∧ ∀ j, j < size → w.cell? (a'.add (i * size + j)) = cs[j]? := by
      intro i hi
      obtain ⟨cs', h1, h2⟩ := hel i (by omega)
      rw [hc] at h1
      obtain ⟨_, hl1, hcell⟩ := World.cells?_some h1
      obtain ⟨x, hx⟩ := hE _ _ _ _ h2 (hsm _ (by simp; exact ⟨i, hi, rfl⟩))
      refine ⟨x, cs', hl1, hx, fun j hj => ?_⟩
      rw [← hcell j hj, Deep.add_add]
    obtain ⟨f, hf⟩ := Deep.choose_lt hall
    refine ⟨some a', m, (List.range len).map f, by simp, by simpa using hlen, ?_⟩
    by_cases h0 : len = 0
    · left; simp [h0]
    · right
      obtain ⟨b, o, sp⟩ := a'
      have hsp : sp = none := by
        obtain ⟨cs, hl, _, hcell⟩ := hf 0 (by omega)
        have := hcell 0 hsz
        rw [Nat.zero_mul, Nat.add_zero] at this
        have h1 : cs[0]? = some (cs[0]'(by omega)) := List.getElem?_eq_getElem (by omega)
        rw [h1] at this
        have := World.cell?_spot this
        simpa [Addr.add] using this
      subst hsp
      refine ⟨b, o, rfl, fun i hi => ?_⟩
      have hi' : i < len := by simpa using hi
      obtain ⟨cs, hl, hx, hcell⟩ := hf i hi'
      refine ⟨cs, hl, by simpa using hx, fun j hj => ?_⟩
      rw [← hcell j hj]
      rw [add_mk]
end

/-- what is seen stays, below B -/
theorem Below.seen {α : Type} {w w' : World} (hb : Below w.heap.size w w') {size : Nat} {E : List Value → α → Prop} {a : Option Addr} {xs : List α} (h : Seen w size E a xs) : Seen w' size E a xs := by
  rcases h with h | ⟨b, o, rfl, hx⟩
  · exact .inl h
  · refine .inr ⟨b, o, rfl, fun i hi => ?_⟩
    obtain ⟨cs, hl, he, hc⟩ := hx i hi
    refine ⟨cs, hl, he, fun j hj => ?_⟩
    have h1 := hc j hj
    rw [List.getElem?_eq_getElem (by omega)] at h1
    rw [hb.cell (World.block_lt_of_cell? w _ h1), hc j hj]

theorem v_und5 : Try.prog.underlying 5 = some (.int .u8) := by kernel_rfl
theorem v_und27 : Try.prog.underlying 27 = some (.slice 5) := by kernel_rfl
theorem v_und26 : Try.prog.underlying 26 = some (.slice 27) := by kernel_rfl
theorem v_cells5 : Try.prog.cellsOf 5 = 1 := by kernel_rfl
theorem v_cells27 : Try.prog.cellsOf 27 = 1 := by kernel_rfl
theorem v_bytes5 : Try.prog.bytesOf 5 = 1 := by kernel_rfl
theorem v_bytes27 : Try.prog.bytesOf 27 = 24 := by kernel_rfl
def EByte (cs : List Value) (b : UInt8) : Prop := cs = [B b]
section
variable {H : Type} {enc : TypeId × Value → H} {w : World}
theorem trod_byte (n : Nat) (cs : List Value) (d : DataW H) (ps : List MemPlace) (h : Rdg enc w n 5 cs = some (d, ps)) (_ : Small 5 d) : ∃ x, EByte cs x := by
  obtain ⟨z, rfl, _, hw⟩ := DataW.trod_int v_und5 h
  have hb : 0 ≤ z ∧ z ≤ 255 := by simpa [Lit.wf, IntKind.min, IntKind.max, IntKind.signed, IntKind.bits] using hw
  refine ⟨UInt8.ofNat z.toNat, ?_⟩
  unfold EByte B
  have : (UInt8.ofNat z.toNat).toNat = z.toNat := by rw [UInt8.toNat_ofNat']; omega
  rw [this, Int.toNat_of_nonneg hb.1]
end
theorem rd_of_seen {w : World} {a : Option Addr} {l : List UInt8} (h : Seen w 1 EByte a l) : Rd w a l := by
  rcases h with rfl | ⟨b, o, rfl, hx⟩
  · exact .inl rfl
  · refine .inr ⟨b, o, rfl, fun i hi => ?_⟩
    have hi' : i < l.length := by simpa using hi
    obtain ⟨cs, _, he, hc⟩ := hx i hi'
    have := hc 0 (by omega)
    rw [Nat.mul_one, Nat.add_zero] at this
    rw [this, he]
    simp [hi']
/-- a slice of bytes -/
def VBytes (w : World) (v : Value) (l : List UInt8) : Prop := ∃ a cap, v = .slice a l.length cap ∧ l.length ≤ 140737488351232 ∧ Rd w a l
def EBytes (w : World) (cs : List Value) (l : List UInt8) : Prop := ∃ v, cs = [v] ∧ VBytes w v l
theorem view_bytes {H : Type} {enc : TypeId × Value → H} {w : World} {n : Nat} {v : Value} {d : DataW H} {ps : List MemPlace} (h : Rdg enc w n 27 v.cells.toList = some (d, ps)) (hz : Small 27 d)
    (hv : ∃ a l c, v = .slice a l c) : ∃ l, VBytes w v l := by
  obtain ⟨a, cap, xs, rfl, hl, hs⟩ := view_slice v_und27 v_cells5 (by omega) v_bytes5 EByte trod_byte h hz hv
  exact ⟨xs, a, cap, rfl, by omega, rd_of_seen hs⟩
theorem trod_bytes {H : Type} {enc : TypeId × Value → H} {w : World} (n : Nat) (cs : List Value) (d : DataW H) (ps : List MemPlace) (h : Rdg enc w n 27 cs = some (d, ps)) (hz : Small 27 d) : ∃ x, EBytes w cs x := by
  rcases Deep.open_slice v_und27 h with ⟨rfl, _⟩ | ⟨a', l', c', m, n', D, Pl, rfl, _, hl, hm, hmm, hx, hel⟩
  · exact ⟨[], _, rfl, none, 0, rfl, by simp, .inl rfl⟩
  · obtain ⟨l, hl⟩ := view_bytes (v := .slice (some a') l' c') h hz ⟨_, _, _, rfl⟩
    exact ⟨l, _, rfl, hl⟩
def VBytess (w : World) (v : Value) (ls : List (List UInt8)) : Prop := ∃ a cap, v = .slice a ls.length cap ∧ ls.length * 24 ≤ 140737488351232 ∧ Seen w 1 (EBytes w) a ls
theorem view_bytess {H : Type} {enc : TypeId × Value → H} {w : World} {n : Nat} {v : Value} {d : DataW H} {ps : List MemPlace} (h : Rdg enc w n 26 v.cells.toList = some (d, ps)) (hz : Small 26 d)
    (hv : ∃ a l c, v = .slice a l c) : ∃ ls, VBytess w v ls := by
  obtain ⟨a, cap, xs, rfl, hl, hs⟩ := view_slice v_und26 v_cells27 (by omega) v_bytes27 (EBytes w) trod_bytes h hz hv
  exact ⟨xs, a, cap, rfl, by omega, hs⟩
end Go.Proofs.Ytdhhpnfdnoaihaa

/-! M1 -/
namespace Go.Proofs.Ytdhhpnfdnoaihaa.PCrc
def poly : BitVec 32 := 0xedb88320#32
/-- one bit -/
def s1 (c : BitVec 32) : BitVec 32 := (c >>> 1) ^^^ (poly &&& -(c &&& 1#32))
def s8 (c : BitVec 32) : BitVec 32 := s1 (s1 (s1 (s1 (s1 (s1 (s1 (s1 c)))))))
def step (c : BitVec 32) (b : BitVec 8) : BitVec 32 := s8 (c ^^^ b.setWidth 32)
def run (c : BitVec 32) (l : List (BitVec 8)) : BitVec 32 := l.foldl step c
def sum (l : List (BitVec 8)) : BitVec 32 := ~~~ (run (~~~ 0#32) l)

theorem low_cases (c : BitVec 32) : c &&& 1#32 = 0#32 ∨ c &&& 1#32 = 1#32 := by
  have h : (c &&& 1#32).toNat = c.toNat % 2 := by
    rw [BitVec.toNat_and]; exact Nat.and_one_is_mod _
  rcases Nat.mod_two_eq_zero_or_one c.toNat with h' | h'
  · left; apply BitVec.eq_of_toNat_eq; rw [h, h']; rfl
  · right; apply BitVec.eq_of_toNat_eq; rw [h, h']; rfl

theorem s1_xor (a b : BitVec 32) : s1 (a ^^^ b) = s1 a ^^^ s1 b := by
  unfold s1
  have e : (a ^^^ b) &&& 1#32 = (a &&& 1#32) ^^^ (b &&& 1#32) := by
    apply BitVec.eq_of_getLsbD_eq; intro i hi
    simp only [BitVec.getLsbD_and, BitVec.getLsbD_xor]
    cases a.getLsbD i <;> cases b.getLsbD i <;> cases (1#32).getLsbD i <;> rfl
  have e2 : (a ^^^ b) >>> 1 = (a >>> 1) ^^^ (b >>> 1) := by
    apply BitVec.eq_of_getLsbD_eq; intro i hi
    simp only [BitVec.getLsbD_ushiftRight, BitVec.getLsbD_xor]
  rw [e, e2]
  have key : poly &&& -((a &&& 1#32) ^^^ (b &&& 1#32)) = (poly &&& -(a &&& 1#32)) ^^^ (poly &&& -(b &&& 1#32)) := by
    rcases low_cases a with h | h <;> rcases low_cases b with h' | h' <;> rw [h, h'] <;> decide
  rw [key]
  generalize a >>> 1 = x; generalize b >>> 1 = y
  generalize poly &&& -(a &&& 1#32) = z; generalize poly &&& -(b &&& 1#32) = t
  ac_rfl
theorem s8_xor (a b : BitVec 32) : s8 (a ^^^ b) = s8 a ^^^ s8 b := by simp only [s8, s1_xor]
theorem s1_zero : s1 0#32 = 0#32 := by decide
theorem s8_zero : s8 0#32 = 0#32 := by decide

theorem s1_inj0 (c : BitVec 32) (h : s1 c = 0#32) : c = 0#32 := by
  unfold s1 at h
  have top : (c >>> 1).getLsbD 31 = false := by simp
  rcases low_cases c with h' | h'
  · rw [h'] at h
    have h0 : c >>> 1 = 0#32 := by simpa using h
    have h1 : c.toNat / 2 = 0 := by
      have := congrArg BitVec.toNat h0
      simpa [BitVec.toNat_ushiftRight, Nat.shiftRight_eq_div_pow] using this
    have h2 : c.toNat % 2 = 0 := by
      have := congrArg BitVec.toNat h'
      rw [BitVec.toNat_and] at this
      rw [← Nat.and_one_is_mod]; exact this
    apply BitVec.eq_of_toNat_eq
    show c.toNat = 0
    omega
  · rw [h'] at h
    have := congrArg (fun x => BitVec.getLsbD x 31) h
    simp only [BitVec.getLsbD_xor, top] at this
    exact absurd this (by decide)
theorem s8_inj0 (c : BitVec 32) (h : s8 c = 0#32) : c = 0#32 := by
  unfold s8 at h
  exact s1_inj0 _ (s1_inj0 _ (s1_inj0 _ (s1_inj0 _ (s1_inj0 _ (s1_inj0 _ (s1_inj0 _ (s1_inj0 _ h)))))))
theorem xor_eq_zero {a b : BitVec 32} : a ^^^ b = 0#32 ↔ a = b := by
  constructor
  · intro h
    have : a ^^^ b ^^^ b = 0#32 ^^^ b := by rw [h]
    rwa [BitVec.xor_assoc, BitVec.xor_self, BitVec.xor_zero, BitVec.zero_xor] at this
  · rintro rfl; exact BitVec.xor_self
theorem s8_inj {a b : BitVec 32} (h : s8 a = s8 b) : a = b := by
  rw [← xor_eq_zero]; apply s8_inj0; rw [s8_xor, h, BitVec.xor_self]
theorem xor_right_inj {a b c : BitVec 32} (h : a ^^^ c = b ^^^ c) : a = b := by
  have := congrArg (· ^^^ c) h
  simpa [BitVec.xor_assoc] using this
theorem step_inj {c d : BitVec 32} {b : BitVec 8} (h : step c b = step d b) : c = d := xor_right_inj (s8_inj h)
theorem run_cons (c : BitVec 32) (b : BitVec 8) (l : List (BitVec 8)) : run c (b :: l) = run (step c b) l := rfl
theorem run_append (c : BitVec 32) (l m : List (BitVec 8)) : run c (l ++ m) = run (run c l) m := by simp [run, List.foldl_append]
theorem run_inj {c d : BitVec 32} (l : List (BitVec 8)) (h : run c l = run d l) : c = d := by
  induction l generalizing c d with
  | nil => exact h
  | cons b l ih => exact step_inj (ih h)

def bits1 : Nat → BitVec 32 → BitVec 32
  | 0, c => c
  | n + 1, c => s1 (bits1 n c)
theorem bits8 (c : BitVec 32) : bits1 8 c = s8 c := rfl
/-- n times a step with the byte 0 -/
def pow : Nat → BitVec 32 → BitVec 32
  | 0, c => c
  | n + 1, c => pow n (s8 c)
theorem pow_xor (n : Nat) (a b : BitVec 32) : pow n (a ^^^ b) = pow n a ^^^ pow n b := by
  induction n generalizing a b with
  | zero => rfl
  | succ n ih => simp only [pow, s8_xor, ih]
theorem pow_add (m n : Nat) (c : BitVec 32) : pow (m + n) c = pow n (pow m c) := by
  induction m generalizing c with
  | zero => simp [pow]
  | succ m ih => rw [Nat.succ_add]; exact ih _
theorem pow_zero (n : Nat) : pow n 0#32 = 0#32 := by
  induction n with
  | zero => rfl
  | succ n ih => simp only [pow, s8_zero, ih]
theorem pow_inj0 (n : Nat) (c : BitVec 32) (h : pow n c = 0#32) : c = 0#32 := by
  induction n generalizing c with
  | zero => exact h
  | succ n ih => exact s8_inj0 _ (ih _ h)
theorem step_xor (c d : BitVec 32) (b e : BitVec 8) : step (c ^^^ d) (b ^^^ e) = step c b ^^^ step d e := by
  unfold step
  rw [← s8_xor]
  congr 1
  have : (b ^^^ e).setWidth 32 = b.setWidth 32 ^^^ e.setWidth 32 := BitVec.setWidth_xor
  rw [this]; ac_rfl
theorem step_split (c d : BitVec 32) (b : BitVec 8) : step (c ^^^ d) b = s8 c ^^^ step d b := by
  have := step_xor c d 0#8 b
  rw [BitVec.zero_xor] at this
  rw [this]
  congr 1
  show s8 (c ^^^ (0#8).setWidth 32) = s8 c
  rw [show (0#8).setWidth 32 = 0#32 from rfl, BitVec.xor_zero]
theorem run_split (c d : BitVec 32) (l : List (BitVec 8)) : run (c ^^^ d) l = pow l.length c ^^^ run d l := by
  induction l generalizing c d with
  | nil => rfl
  | cons b l ih => rw [run_cons, step_split, ih]; rfl
theorem run_split0 (c : BitVec 32) (l : List (BitVec 8)) : run c l = pow l.length c ^^^ run 0#32 l := by
  have := run_split c 0#32 l
  rwa [BitVec.xor_zero] at this

theorem not_eq (a : BitVec 32) : ~~~ a = a ^^^ ~~~ 0#32 := by
  rw [BitVec.not_zero]; exact BitVec.xor_allOnes.symm
/-- P2.2 -/
theorem join (a b : List (BitVec 8)) : pow b.length (sum a) ^^^ sum b = sum (a ++ b) := by
  unfold sum
  rw [run_append, run_split0 (run _ a) b, run_split0 (~~~ 0#32) b, not_eq (run (~~~ 0#32) a), pow_xor]
  rw [not_eq (pow b.length (~~~ 0#32) ^^^ run 0#32 b), not_eq (pow b.length (run (~~~ 0#32) a) ^^^ run 0#32 b)]
  generalize pow b.length (run (~~~ 0#32) a) = x
  generalize pow b.length (~~~ 0#32) = y
  generalize run 0#32 b = z
  generalize ~~~ 0#32 = t
  calc (x ^^^ y) ^^^ ((y ^^^ z) ^^^ t) = (x ^^^ (y ^^^ y)) ^^^ (z ^^^ t) := by ac_rfl
    _ = (x ^^^ z) ^^^ t := by rw [BitVec.xor_self, BitVec.xor_zero]; ac_rfl

/-- lists of one length: the difference -/
theorem run_diff : ∀ (l m : List (BitVec 8)) (c d : BitVec 32), l.length = m.length →
    run c l ^^^ run d m = run (c ^^^ d) (List.zipWith (· ^^^ ·) l m)
  | [], [], c, d, _ => rfl
  | b :: l, e :: m, c, d, h => by
    rw [run_cons, run_cons, run_diff l m _ _ (by simpa using h), ← step_xor]; rfl

/-- four bytes of which one isn't 0, from the sum 0 on: not 0 -/
theorem s8_high (x : BitVec 32) (h : x &&& 255#32 = 0#32) : s8 x = x >>> 8 := by
  have hb : ∀ i, i < 8 → x.getLsbD i = false := by
    intro i hi
    have := congrArg (fun y => BitVec.getLsbD y i) h
    simp only [BitVec.getLsbD_and] at this
    have h255 : (255#32).getLsbD i = true := by
      match i, hi with
      | 0, _ => rfl | 1, _ => rfl | 2, _ => rfl | 3, _ => rfl | 4, _ => rfl | 5, _ => rfl | 6, _ => rfl | 7, _ => rfl
    rw [h255] at this
    simpa using this
  have one : ∀ y : BitVec 32, y.getLsbD 0 = false → s1 y = y >>> 1 := by
    intro y hy
    unfold s1
    rcases low_cases y with h' | h'
    · rw [h']; simp
    · exfalso
      have := congrArg (fun y => BitVec.getLsbD y 0) h'
      simp only [BitVec.getLsbD_and, hy] at this
      exact absurd this (by decide)
  have sh : ∀ k, k < 8 → s1 (x >>> k) = x >>> (k + 1) := by
    intro k hk
    rw [one _ (by rw [BitVec.getLsbD_ushiftRight]; exact hb _ hk), BitVec.shiftRight_add]
  unfold s8
  have h0 : s1 x = x >>> 1 := by simpa using sh 0 (by omega)
  rw [h0, sh 1 (by omega), sh 2 (by omega), sh 3 (by omega), sh 4 (by omega), sh 5 (by omega), sh 6 (by omega), sh 7 (by omega)]

theorem shl8 (x : BitVec 32) (h : x.toNat < 2 ^ 24) : (x <<< 8).toNat = x.toNat * 256 := by
  rw [BitVec.toNat_shiftLeft, Nat.shiftLeft_eq]
  exact Nat.mod_eq_of_lt (by omega)
theorem s8_shift (x : BitVec 32) (h : x.toNat < 2 ^ 24) : s8 (x <<< 8) = x := by
  have e : (x <<< 8) &&& 255#32 = 0#32 := by
    apply BitVec.eq_of_toNat_eq
    rw [BitVec.toNat_and, shl8 x h]
    show x.toNat * 256 &&& (2 ^ 8 - 1) = 0
    rw [Nat.and_two_pow_sub_one_eq_mod]
    omega
  rw [s8_high _ e]
  apply BitVec.eq_of_toNat_eq
  rw [BitVec.toNat_ushiftRight, shl8 x h, Nat.shiftRight_eq_div_pow]
  omega
theorem byte_toNat (b : BitVec 8) : (b.setWidth 32).toNat = b.toNat := by
  rw [BitVec.toNat_setWidth]; exact Nat.mod_eq_of_lt (by have := b.isLt; omega)
theorem byte_shift (b : BitVec 8) (x : BitVec 32) (h : x.toNat < 2 ^ 24) (e : b.setWidth 32 = x <<< 8) : b = 0#8 ∧ x = 0#32 := by
  have := congrArg BitVec.toNat e
  rw [byte_toNat, shl8 x h] at this
  have hb := b.isLt
  exact ⟨BitVec.eq_of_toNat_eq (by simp; omega), BitVec.eq_of_toNat_eq (by simp; omega)⟩
theorem back (c x : BitVec 32) (b : BitVec 8) (h : x.toNat < 2 ^ 24) (e : step c b = x) : c = b.setWidth 32 ^^^ x <<< 8 := by
  have e1 : s8 (c ^^^ b.setWidth 32) = s8 (x <<< 8) := by rw [s8_shift x h]; exact e
  have e2 := s8_inj e1
  rw [← e2, BitVec.xor_comm c, ← BitVec.xor_assoc, BitVec.xor_self, BitVec.zero_xor]
theorem back_lt (x : BitVec 32) (b : BitVec 8) (k : Nat) (hk : k ≤ 24) (h : x.toNat < 2 ^ k) : (b.setWidth 32 ^^^ x <<< 8).toNat < 2 ^ (k + 8) := by
  have h24 : x.toNat < 2 ^ 24 := Nat.lt_of_lt_of_le h (Nat.pow_le_pow_right (by omega) hk)
  rw [BitVec.toNat_xor, byte_toNat, shl8 x h24]
  apply Nat.xor_lt_two_pow
  · have := b.isLt; have h2 : 2 ^ 8 ≤ 2 ^ (k + 8) := Nat.pow_le_pow_right (by omega) (by omega); omega
  · rw [Nat.pow_add]; omega
/-- P2.3's heart -/
theorem four (d0 d1 d2 d3 : BitVec 8) (h : run 0#32 [d0, d1, d2, d3] = 0#32) : d0 = 0#8 ∧ d1 = 0#8 ∧ d2 = 0#8 ∧ d3 = 0#8 := by
  simp only [run, List.foldl_cons, List.foldl_nil] at h
  have e3 := back _ _ _ (by decide) h
  rw [show (0#32 : BitVec 32) <<< 8 = 0#32 from rfl] at e3
  have l3 := back_lt 0#32 d3 0 (by omega) (by decide)
  rw [show (0#32 : BitVec 32) <<< 8 = 0#32 from rfl] at l3
  have e2 := back _ _ _ (Nat.lt_of_lt_of_le l3 (by decide)) e3
  have l2 := back_lt _ d2 8 (by omega) l3
  have e1 := back _ _ _ (Nat.lt_of_lt_of_le l2 (by decide)) e2
  have l1 := back_lt _ d1 16 (by omega) l2
  have e0 := back _ _ _ (Nat.lt_of_lt_of_le l1 (by decide)) e1
  have p0 := byte_shift d0 _ (Nat.lt_of_lt_of_le l1 (by decide)) (xor_eq_zero.1 e0.symm)
  have p1 := byte_shift d1 _ (Nat.lt_of_lt_of_le l2 (by decide)) (xor_eq_zero.1 p0.2)
  have p2 := byte_shift d2 _ (Nat.lt_of_lt_of_le l3 (by decide)) (xor_eq_zero.1 p1.2)
  have p3 := byte_shift d3 0#32 (by decide) (xor_eq_zero.1 p2.2)
  exact ⟨p0.1, p1.1, p2.1, p3.1⟩
theorem run_zeros (n : Nat) (c : BitVec 32) : run c (List.replicate n 0#8) = pow n c := by
  induction n generalizing c with
  | zero => rfl
  | succ n ih =>
    rw [List.replicate_succ, run_cons, ih]
    show pow n (s8 (c ^^^ (0#8).setWidth 32)) = _
    rw [show (0#8).setWidth 32 = 0#32 from rfl, BitVec.xor_zero]; rfl
/-- up to four bytes, with zeros behind them -/
theorem few (l : List (BitVec 8)) (hl : l.length ≤ 4) (h : run 0#32 l = 0#32) : ∀ b ∈ l, b = 0#8 := by
  have h4 : run 0#32 (l ++ List.replicate (4 - l.length) 0#8) = 0#32 := by rw [run_append, h, run_zeros, pow_zero]
  match l, hl with
  | [], _ => simp
  | [a], _ => have := four _ _ _ _ h4; simp [this.1]
  | [a, b], _ => have := four _ _ _ _ h4; simp [this.1, this.2.1]
  | [a, b, c], _ => have := four _ _ _ _ h4; simp [this.1, this.2.1, this.2.2.1]
  | [a, b, c, d], _ => have := four _ _ _ _ h4; simp [this.1, this.2.1, this.2.2.1, this.2.2.2]
/-- P2.3: a difference: zeros, up to four bytes, zeros -/
theorem window (n m : Nat) (l : List (BitVec 8)) (hl : l.length ≤ 4) : run 0#32 (List.replicate n 0#8 ++ (l ++ List.replicate m 0#8)) = 0#32 ↔ ∀ b ∈ l, b = 0#8 := by
  rw [run_append, run_zeros, pow_zero, run_append, run_zeros]
  constructor
  · intro h; exact few l hl (pow_inj0 _ _ h)
  · intro h
    have : l = List.replicate l.length 0#8 := List.eq_replicate_iff.2 ⟨rfl, h⟩
    rw [this, run_zeros, pow_zero, pow_zero]
theorem sum_eq (l m : List (BitVec 8)) (h : l.length = m.length) : sum l = sum m ↔ run 0#32 (List.zipWith (· ^^^ ·) l m) = 0#32 := by
  have e := run_diff l m (~~~ 0#32) (~~~ 0#32) h
  rw [BitVec.xor_self] at e
  rw [← e, xor_eq_zero]
  unfold sum
  exact ⟨fun h => by simpa using h, fun h => by rw [h]⟩
end Go.Proofs.Ytdhhpnfdnoaihaa.PCrc

/-! M2 -/
/- Linear maps of 32 bits, by their columns. -/
namespace Go.Proofs.Ytdhhpnfdnoaihaa.PCrc
def Lin (f : BitVec 32 → BitVec 32) : Prop := ∀ a b, f (a ^^^ b) = f a ^^^ f b
theorem Lin.zero {f : BitVec 32 → BitVec 32} (h : Lin f) : f 0#32 = 0#32 := by
  have := h 0#32 0#32
  rw [BitVec.xor_self, BitVec.xor_self] at this; exact this
theorem lin_pow (n : Nat) : Lin (pow n) := fun a b => pow_xor n a b
/-- what is left of v behind its first k bits, at its place -/
def rest (v : BitVec 32) (k : Nat) : BitVec 32 := (v >>> k) <<< k
theorem rest_bit (v : BitVec 32) (k i : Nat) (hi : i < 32) : (rest v k).getLsbD i = (decide (k ≤ i) && v.getLsbD i) := by
  unfold rest
  simp only [BitVec.getLsbD_shiftLeft, BitVec.getLsbD_ushiftRight]
  by_cases h : k ≤ i
  · have : ¬ i < k := by omega
    simp [h, this, hi]
  · have : i < k := by omega
    simp [h, this]
theorem low_bit (v : BitVec 32) (k : Nat) : ((v >>> k) &&& 1#32).getLsbD 0 = v.getLsbD k := by
  simp
theorem rest0 (v : BitVec 32) (k : Nat) (h : (v >>> k) &&& 1#32 = 0#32) : rest v k = rest v (k + 1) := by
  have hk : v.getLsbD k = false := by rw [← low_bit, h]; rfl
  apply BitVec.eq_of_getLsbD_eq; intro i hi
  rw [rest_bit _ _ _ hi, rest_bit _ _ _ hi]
  by_cases e : i = k
  · subst e; simp [hk]
  · have : (k ≤ i) ↔ (k + 1 ≤ i) := by omega
    simp [this]
theorem one_bit (k i : Nat) (hi : i < 32) : (1#32 <<< k).getLsbD i = decide (i = k) := by
  simp only [BitVec.getLsbD_shiftLeft]
  by_cases e : i = k
  · subst e; simp [hi]
  · by_cases h : i < k
    · simp [h, e]
    · have : i - k ≠ 0 := by omega
      simp [h, e, hi, BitVec.getLsbD_one, this]
theorem rest1 (v : BitVec 32) (k : Nat) (h : (v >>> k) &&& 1#32 = 1#32) : (v ^^^ rest v k) ^^^ (1#32 <<< k) = v ^^^ rest v (k + 1) := by
  have hk : v.getLsbD k = true := by rw [← low_bit, h]; rfl
  rw [BitVec.xor_assoc]
  congr 1
  apply BitVec.eq_of_getLsbD_eq; intro i hi
  rw [BitVec.getLsbD_xor, rest_bit _ _ _ hi, rest_bit _ _ _ hi, one_bit _ _ hi]
  by_cases e : i = k
  · subst e; simp [hk]
  · have : (k ≤ i) ↔ (k + 1 ≤ i) := by omega
    simp [this, e]
theorem shift_lt (v : BitVec 32) (k : Nat) (h : v >>> k ≠ 0#32) : k < 32 := by
  apply Classical.byContradiction; intro hk
  apply h
  apply BitVec.eq_of_getLsbD_eq; intro i hi
  rw [BitVec.getLsbD_ushiftRight]
  simp [BitVec.getLsbD_of_ge v (k + i) (by omega)]
theorem rest_zero (v : BitVec 32) : v ^^^ rest v 0 = 0#32 := by
  unfold rest; simp
theorem rest_end (v : BitVec 32) (k : Nat) (h : v >>> k = 0#32) : v ^^^ rest v k = v := by
  unfold rest; rw [h]; simp
/-- what 'times' has gathered -/
def got (f : BitVec 32 → BitVec 32) (v : BitVec 32) (k : Nat) : BitVec 32 := f (v ^^^ rest v k)
theorem got_start {f} (h : Lin f) (v : BitVec 32) : got f v 0 = 0#32 := by unfold got; rw [rest_zero, h.zero]
theorem got0 (f) (v : BitVec 32) (k : Nat) (h : (v >>> k) &&& 1#32 = 0#32) : got f v (k + 1) = got f v k := by unfold got; rw [rest0 v k h]
theorem got1 {f} (hf : Lin f) (v : BitVec 32) (k : Nat) (h : (v >>> k) &&& 1#32 = 1#32) : got f v (k + 1) = got f v k ^^^ f (1#32 <<< k) := by
  unfold got; rw [← rest1 v k h, hf]
theorem got_end (f) (v : BitVec 32) (k : Nat) (h : v >>> k = 0#32) : got f v k = f v := by unfold got; rw [rest_end v k h]
theorem shr_succ (v : BitVec 32) (k : Nat) : (v >>> k) >>> 1 = v >>> (k + 1) := by rw [BitVec.shiftRight_add]
end Go.Proofs.Ytdhhpnfdnoaihaa.PCrc

/-! C1 -/
/- Contracts of crc.Step and of the reference's. -/
namespace Go.Proofs.Ytdhhpnfdnoaihaa
open Go.RowKit

theorem w32 (n : Int) : IntKind.u32.wrap n = n % 4294967296 := by simp [IntKind.wrap, IntKind.bits, IntKind.signed]
theorem bv32 (a : BitVec 32) : BitVec.ofInt 32 (a.toNat : Int) = a := by
  rw [BitVec.ofInt_natCast]; simp
theorem xor32 (a b : BitVec 32) : bits .xor .u32 (a.toNat : Int) (b.toNat : Int) = ((a ^^^ b).toNat : Int) := by
  show IntKind.u32.wrap ((BitVec.ofInt 32 (a.toNat : Int) ^^^ BitVec.ofInt 32 (b.toNat : Int)).toNat : Int) = _
  rw [bv32, bv32, w32]; have := (a ^^^ b).isLt; omega
theorem and32 (a b : BitVec 32) : bits .and .u32 (a.toNat : Int) (b.toNat : Int) = ((a &&& b).toNat : Int) := by
  show IntKind.u32.wrap ((BitVec.ofInt 32 (a.toNat : Int) &&& BitVec.ofInt 32 (b.toNat : Int)).toNat : Int) = _
  rw [bv32, bv32, w32]; have := (a &&& b).isLt; omega
theorem shr32 (a : BitVec 32) : (a.toNat : Int) / (2 : Int) = ((a >>> 1).toNat : Int) := by
  rw [BitVec.toNat_ushiftRight, Nat.shiftRight_eq_div_pow]; omega
theorem neg32 (a : BitVec 32) : -(a.toNat : Int) % 4294967296 = ((-a).toNat : Int) := by
  rw [BitVec.toNat_neg]; have := a.isLt; omega
theorem s1_spell (x : BitVec 32) : bits .xor .u32 ((x.toNat : Int) / 2) (bits .and .u32 3988292384 (-bits .and .u32 (x.toNat : Int) 1 % 4294967296)) = ((PCrc.s1 x).toNat : Int) := by
  have e1 : bits .and .u32 (x.toNat : Int) 1 = ((x &&& 1#32).toNat : Int) := and32 x 1#32
  have e2 : ∀ y : BitVec 32, bits .and .u32 3988292384 (y.toNat : Int) = ((PCrc.poly &&& y).toNat : Int) := fun y => and32 PCrc.poly y
  rw [e1, neg32, e2, shr32, xor32]; rfl
theorem ret_int {k : IntKind} {a b : Int} (h : a = b) : Ending.returned (Value.int k a) = .returned (.int k b) := by rw [h]
theorem ret_bool {a b : Bool} (h : a = b) : Ending.returned (Value.bool a) = .returned (.bool b) := by rw [h]

set_option maxHeartbeats 400000 in
theorem step_any (c : BitVec 32) (b : UInt8) (w : World) :
    Calls Try.prog 21 #[.int .u32 (c.toNat : Int), .int .u8 (b.toNat : Int)] w fun e w' => e = .returned (.int .u32 ((PCrc.step c b.toBitVec).toNat : Int)) ∧ w = w' := by
  have hb : (b.toNat : Int) < 256 := by have := b.toNat_lt; omega
  have h0 : bits .xor .u32 (c.toNat : Int) (b.toNat : Int) = ((PCrc.bits1 0 (c ^^^ b.toBitVec.setWidth 32)).toNat : Int) := by
    have e := xor32 c (b.toBitVec.setWidth 32)
    rw [PCrc.byte_toNat] at e; exact e
  go_enter Try.func21, Try.ntmps21
  go_wp2
  go_loop [0, 9] (fun x i => ∃ k : Nat, k ≤ 8 ∧ i = .int .i64 k ∧ x = .int .u32 ((PCrc.bits1 k (c ^^^ b.toBitVec.setWidth 32)).toNat : Int)) (fun _ i => 8 - (intOf i).toNat)
  case atStart => exact ⟨0, by omega, rfl, by rfl⟩
  case round =>
    obtain ⟨k, hk, rfl, rfl⟩ := hrel
    clear h0 hb
    generalize hx : PCrc.bits1 k (c ^^^ b.toBitVec.setWidth 32) = x
    have HX := hid hx
    clear hx
    by_cases hlt : k < 8
    · go_wp2
      go_round
      case rel => exact ⟨k + 1, by omega, by go_num, congrArg (Value.int .u32) ((s1_spell x).trans (by rw [← HX.out]; rfl))⟩
      case measure => simp [intOf]; omega
    · obtain rfl : k = 8 := by omega
      go_wp2
      go_ret
      exact ⟨ret_int (by rw [← HX.out]; rfl), rfl⟩
end Go.Proofs.Ytdhhpnfdnoaihaa

/-! C2 -/
/- Contracts of the reference's Step and Sum. -/
namespace Go.Proofs.Ytdhhpnfdnoaihaa
open Go.RowKit

theorem rem32_1 (x : BitVec 32) (h : x &&& 1#32 = 1#32) : (x.toNat : Int) % (2 : Int) = 1 := by
  have := congrArg BitVec.toNat h
  rw [BitVec.toNat_and] at this
  have e : x.toNat &&& 1 = 1 := this
  rw [Nat.and_one_is_mod] at e; omega
theorem rem32_0 (x : BitVec 32) (h : x &&& 1#32 = 0#32) : (x.toNat : Int) % (2 : Int) = 0 := by
  have := congrArg BitVec.toNat h
  rw [BitVec.toNat_and] at this
  have e : x.toNat &&& 1 = 0 := this
  rw [Nat.and_one_is_mod] at e; omega
theorem s1_one (x : BitVec 32) (h : x &&& 1#32 = 1#32) : bits .xor .u32 ((x.toNat : Int) / (2 : Int)) 3988292384 = ((PCrc.s1 x).toNat : Int) := by
  have e : ∀ y : BitVec 32, bits .xor .u32 (y.toNat : Int) 3988292384 = ((y ^^^ PCrc.poly).toNat : Int) := fun y => xor32 y PCrc.poly
  rw [shr32, e]; unfold PCrc.s1; rw [h]; rfl
theorem s1_nil (x : BitVec 32) (h : x &&& 1#32 = 0#32) : (x.toNat : Int) / (2 : Int) = ((PCrc.s1 x).toNat : Int) := by
  rw [shr32]; unfold PCrc.s1; rw [h]; simp

set_option maxHeartbeats 400000 in
theorem refstep_any (c : BitVec 32) (b : UInt8) (w : World) :
    Calls Try.prog 22 #[.int .u32 (c.toNat : Int), .int .u8 (b.toNat : Int)] w fun e w' => e = .returned (.int .u32 ((PCrc.step c b.toBitVec).toNat : Int)) ∧ w = w' := by
  have hb : (b.toNat : Int) < 256 := by have := b.toNat_lt; omega
  have h0 : bits .xor .u32 (c.toNat : Int) (b.toNat : Int) = ((PCrc.bits1 0 (c ^^^ b.toBitVec.setWidth 32)).toNat : Int) := by
    have e := xor32 c (b.toBitVec.setWidth 32)
    rw [PCrc.byte_toNat] at e; exact e
  go_enter Try.func22, Try.ntmps22
  go_wp2
  go_loop [0, 5] (fun x i => ∃ k : Nat, k ≤ 8 ∧ i = .int .i64 k ∧ x = .int .u32 ((PCrc.bits1 k (c ^^^ b.toBitVec.setWidth 32)).toNat : Int)) (fun _ i => 8 - (intOf i).toNat)
  case atStart => exact ⟨0, by omega, rfl, by rfl⟩
  case round =>
    obtain ⟨k, hk, rfl, rfl⟩ := hrel
    clear h0 hb
    generalize hx : PCrc.bits1 k (c ^^^ b.toBitVec.setWidth 32) = x
    have HX := hid hx
    clear hx
    by_cases hlt : k < 8
    · rcases PCrc.low_cases x with h | h
      · have hr := rem32_0 x h
        have H := hid h
        clear h
        go_wp2
        go_round
        case rel => exact ⟨k + 1, by omega, by go_num, congrArg (Value.int .u32) ((s1_nil x H.out).trans (by rw [← HX.out]; rfl))⟩
        case measure => simp [intOf]; omega
      · have hr := rem32_1 x h
        have H := hid h
        clear h
        go_wp2
        go_round
        case rel => exact ⟨k + 1, by omega, by go_num, congrArg (Value.int .u32) ((s1_one x H.out).trans (by rw [← HX.out]; rfl))⟩
        case measure => simp [intOf]; omega
    · obtain rfl : k = 8 := by omega
      go_wp2
      go_ret
      exact ⟨ret_int (by rw [← HX.out]; rfl), rfl⟩
end Go.Proofs.Ytdhhpnfdnoaihaa

/-! C3 -/
/- Slices that are read; contracts of the sums. -/
namespace Go.Proofs.Ytdhhpnfdnoaihaa
open Go.RowKit

@[go_sem] def U32 (c : BitVec 32) : Value := .int .u32 (c.toNat : Int)
/-- a sum goes on by bytes -/
def crun (c : BitVec 32) (l : List UInt8) : BitVec 32 := PCrc.run c (l.map UInt8.toBitVec)
def csum (l : List UInt8) : BitVec 32 := PCrc.sum (l.map UInt8.toBitVec)
theorem crun_nil (c : BitVec 32) : crun c [] = c := rfl
theorem crun_snoc (c : BitVec 32) (l : List UInt8) (b : UInt8) : crun c (l ++ [b]) = PCrc.step (crun c l) b.toBitVec := by
  simp [crun, PCrc.run]
theorem crun_append (c : BitVec 32) (l m : List UInt8) : crun c (l ++ m) = crun (crun c l) m := by
  simp [crun, PCrc.run_append]
theorem take_snoc' (l : List UInt8) (k : Nat) (h : k < l.length) : l.take (k + 1) = l.take k ++ [l[k]] := by
  rw [List.take_succ_eq_append_getElem h]
theorem crun_take (c : BitVec 32) (l : List UInt8) (k : Nat) (h : k < l.length) : crun c (l.take (k + 1)) = PCrc.step (crun c (l.take k)) l[k].toBitVec := by
  rw [take_snoc' l k h, crun_snoc]
theorem not32 (a : BitVec 32) : bits .xor .u32 (a.toNat : Int) 4294967295 = ((~~~ a).toNat : Int) := by
  have := xor32 a (BitVec.allOnes 32)
  rw [BitVec.xor_allOnes] at this; exact this
theorem not32' (a : BitVec 32) : bits .xor .u32 4294967295 (a.toNat : Int) = ((~~~ a).toNat : Int) := by
  have := xor32 (BitVec.allOnes 32) a
  rw [BitVec.allOnes_xor] at this; exact this

set_option maxHeartbeats 400000 in
theorem refsum_any (a : Option Addr) (cap : Nat) (l : List UInt8) (w : World) (h : Rd w a l) (hl : l.length ≤ 140737488351232) :
    Calls Try.prog 23 #[.slice a l.length cap] w fun e w' => e = .returned (U32 (csum l)) ∧ w = w' := by
  rcases h with h | ⟨b, o, rfl, hc⟩
  · obtain rfl : l = [] := by simpa using h
    go_enter Try.func23, Try.ntmps23
    go_wp2
    refine wp_loop_rounds 1 ?_
    rw [rounds_succ]
    go_wp2
    go_ret
    exact ⟨ret_int rfl, rfl⟩
  · have HC := hid (@Rd.at w b o l hc)
    clear hc
    have h0 : (4294967295 : Int) = ((crun (~~~ 0#32) (l.take 0)).toNat : Int) := rfl
    go_enter Try.func23, Try.ntmps23
    go_wp2
    go_loop [3, 4] (fun x i => ∃ k : Nat, k ≤ l.length ∧ i = .int .i64 k ∧ x = U32 (crun (~~~ 0#32) (l.take k))) (fun _ i => l.length - (intOf i).toNat)
    case atStart => exact ⟨0, by omega, rfl, by rfl⟩
    case round =>
      obtain ⟨k, hk, rfl, rfl⟩ := hrel
      clear h0
      by_cases hlt : k < l.length
      · have hck := HC.out k hlt
        generalize hb : l[k] = bk at hck
        have HB := hid hb
        clear hb
        generalize hx : crun (~~~ 0#32) (l.take k) = x
        have HX := hid hx
        clear hx
        unfold U32
        go_wp2_with (go_at_call 22; refine (refstep_any x bk _).mono ?_; rintro e w' ⟨rfl, rfl⟩)
        go_round
        case rel => exact ⟨k + 1, by omega, by go_num, by rw [crun_take _ _ _ hlt, HX.out, HB.out]⟩
        case measure => simp [intOf]; omega
      · obtain rfl : k = l.length := by omega
        generalize hx : crun (~~~ 0#32) (l.take l.length) = x
        have HX := hid hx
        clear hx
        unfold U32
        go_wp2
        go_ret
        exact ⟨ret_int (by rw [not32, ← HX.out, List.take_length]; rfl), rfl⟩
end Go.Proofs.Ytdhhpnfdnoaihaa

/-! C4 -/
/- The contract of crc.Sum. -/
namespace Go.Proofs.Ytdhhpnfdnoaihaa
open Go.RowKit

/-- one of the slices of a slice of byte slices -/
def Part (w : World) (v : Value) (l : List UInt8) : Prop := ∃ a c, v = .slice a l.length c ∧ Rd w a l ∧ l.length ≤ 140737488351232
def RdSS (w : World) (a : Option Addr) (ls : List (List UInt8)) : Prop :=
  ls = [] ∨ ∃ b o, a = some ⟨b, o, none⟩ ∧ ∀ i, (h : i < ls.length) → ∃ v, w.cell? ⟨b, o + i, none⟩ = some v ∧ Part w v ls[i]

theorem flatten_take (ls : List (List UInt8)) (k : Nat) (h : k < ls.length) : (ls.take (k + 1)).flatten = (ls.take k).flatten ++ ls[k] := by
  rw [List.take_succ_eq_append_getElem h, List.flatten_append]; simp
theorem max32 : IntKind.u32.max = 4294967295 := by decide

set_option maxHeartbeats 400000 in
theorem sum_any (a : Option Addr) (cap : Nat) (ls : List (List UInt8)) (w : World) (h : RdSS w a ls) (hl : ls.length ≤ 140737488351232) :
    Calls Try.prog 24 #[.slice a ls.length cap] w fun e w' => e = .returned (U32 (csum ls.flatten)) ∧ w = w' := by
  rcases h with rfl | ⟨b, o, rfl, hc⟩
  · go_enter Try.func24, Try.ntmps24
    go_wp2
    refine wp_loop_rounds 1 ?_
    rw [rounds_succ]
    go_wp2
    go_ret
    exact ⟨ret_int rfl, rfl⟩
  · have HC := hid hc
    clear hc
    have h0 : (4294967295 : Int) = ((crun (~~~ 0#32) (ls.take 0).flatten).toNat : Int) := rfl
    go_enter Try.func24, Try.ntmps24
    go_wp2
    go_loop [3, 10] (fun x i => ∃ k : Nat, k ≤ ls.length ∧ i = .int .i64 k ∧ x = U32 (crun (~~~ 0#32) (ls.take k).flatten)) (fun _ i => ls.length - (intOf i).toNat)
    case atStart => exact ⟨0, by omega, rfl, by rfl⟩
    case round =>
      obtain ⟨k, hk, rfl, rfl⟩ := hrel
      clear h0
      by_cases hlt : k < ls.length
      · obtain ⟨v, hv, pa, pc, rfl, hrd, hpl⟩ := HC.out k hlt
        have HF := hid (flatten_take ls k hlt)
        generalize hp : ls[k] = p at hv hrd hpl HF
        clear hp
        generalize hx : crun (~~~ 0#32) (ls.take k).flatten = x
        have HX := hid hx
        clear hx
        rcases hrd with h | ⟨pb, po, rfl, hcp⟩
        · obtain rfl : p = [] := by simpa using h
          unfold U32
          simp only [List.length_nil] at hv
          go_wp2
          refine wp_loop_rounds 1 ?_
          rw [rounds_succ]
          go_wp2
          go_round
          case rel => exact ⟨k + 1, by omega, by go_num, by rw [HF.out, List.append_nil, HX.out]⟩
          case measure => simp [intOf]; omega
        · have HCP := hid (@Rd.at w pb po p hcp)
          clear hcp
          unfold U32
          go_wp2
          go_loop [3, 16] (fun y i => ∃ j : Nat, j ≤ p.length ∧ i = .int .i64 j ∧ y = U32 (crun x (p.take j))) (fun _ i => p.length - (intOf i).toNat)
          case atStart => exact ⟨0, by omega, rfl, by rfl⟩
          case round =>
            obtain ⟨j, hj, rfl, rfl⟩ := hrel
            by_cases hlj : j < p.length
            · have hcj := HCP.out j hlj
              generalize hb : p[j] = bj at hcj
              have HB := hid hb
              clear hb
              generalize hy : crun x (p.take j) = y
              have HY := hid hy
              clear hy
              unfold U32
              go_wp2_with (go_at_call 21; refine (step_any y bj _).mono ?_; rintro e w' ⟨rfl, rfl⟩)
              go_round
              case rel => exact ⟨j + 1, by omega, by go_num, by rw [crun_take _ _ _ hlj, HY.out, HB.out]⟩
              case measure => simp [intOf]; omega
            · obtain rfl : j = p.length := by omega
              generalize hy : crun x (p.take p.length) = y
              have HY := hid hy
              clear hy
              unfold U32
              go_wp2
              go_round
              case rel => exact ⟨k + 1, by omega, by go_num, by rw [HF.out, crun_append, HX.out, ← HY.out, List.take_length]⟩
              case measure => simp [intOf]; omega
      · obtain rfl : k = ls.length := by omega
        generalize hx : crun (~~~ 0#32) (ls.take ls.length).flatten = x
        have HX := hid hx
        clear hx
        unfold U32
        go_wp2
        go_ret
        exact ⟨ret_int (by rw [max32, not32', ← HX.out, List.take_length]; rfl), rfl⟩
end Go.Proofs.Ytdhhpnfdnoaihaa

/-! C5 -/
/- The contracts of the matrix's times and square. -/
namespace Go.Proofs.Ytdhhpnfdnoaihaa
open Go.RowKit

theorem nez32 (y : BitVec 32) (h : y ≠ 0#32) : ((y.toNat : Int) != 0) = true := by
  rw [bne_iff_ne]; intro e; exact h (BitVec.eq_of_toNat_eq (by simpa using e))

set_option maxHeartbeats 400000 in
theorem times_any (mb : Nat) (f : BitVec 32 → BitVec 32) (hf : PCrc.Lin f) (v : BitVec 32) (w : World)
    (hc : ∀ i, i < 32 → w.cell? ⟨mb, i, none⟩ = some (U32 (f (1#32 <<< i)))) :
    Calls Try.prog 63 #[.pointer (some ⟨mb, 0, none⟩), U32 v] w fun e w' => e = .returned (U32 (f v)) ∧ w = w' := by
  have HC := hid hc
  clear hc
  have h0 : (0 : Int) = ((PCrc.got f v 0).toNat : Int) := by rw [PCrc.got_start hf]; rfl
  have H0 := hid h0
  clear h0
  have h1 : v = v >>> 0 := by simp
  have H1 := hid h1
  clear h1
  unfold U32
  go_enter Try.func63, Try.ntmps63
  go_wp2
  go_loop [1, 5, 6] (fun x out i => ∃ k : Nat, k ≤ 32 ∧ i = .int .i64 k ∧ x = U32 (v >>> k) ∧ out = U32 (PCrc.got f v k)) (fun _ _ i => 33 - (intOf i).toNat)
  case atStart => exact ⟨0, by omega, rfl, by unfold U32; rw [← H1.out], by unfold U32; rw [← H0.out]⟩
  case round =>
    obtain ⟨k, hk, rfl, rfl, rfl⟩ := hrel
    by_cases hz : v >>> k = 0#32
    · have HE := hid (PCrc.got_end f v k hz)
      rw [hz]
      clear hz
      generalize PCrc.got f v k = y at HE ⊢
      unfold U32
      go_wp2
      go_ret
      exact ⟨ret_int (by rw [HE.out]), rfl⟩
    · have hlt := PCrc.shift_lt v k hz
      have hne := nez32 _ hz
      have HS := hid (PCrc.shr_succ v k)
      have hcell := HC.out k hlt
      have HG0 := hid (PCrc.got0 f v k)
      have HG1 := hid (PCrc.got1 hf v k)
      generalize hy : v >>> k = y at *
      generalize hg : PCrc.got f v k = g at *
      generalize hm : f (1#32 <<< k) = m at *
      clear hz hy hg hm
      unfold U32 at hcell ⊢
      rcases PCrc.low_cases y with h | h
      · have hr : bits .and .u32 (y.toNat : Int) 1 = 0 := by have := and32 y 1#32; rw [h] at this; exact this
        have H := hid h
        clear h
        go_wp2
        go_round
        case rel => exact ⟨k + 1, by omega, by go_num, by rw [← HS.out, shr32], by rw [HG0.out H.out]⟩
        case measure => simp [intOf]; omega
      · have hr : bits .and .u32 (y.toNat : Int) 1 = 1 := by have := and32 y 1#32; rw [h] at this; exact this
        have H := hid h
        clear h
        go_wp2
        go_round
        case rel => exact ⟨k + 1, by omega, by go_num, by rw [← HS.out, shr32], by rw [HG1.out H.out, xor32]⟩
        case measure => simp [intOf]; omega
end Go.Proofs.Ytdhhpnfdnoaihaa

/-! C6 -/
/- The contract of the matrix's square. -/
namespace Go.Proofs.Ytdhhpnfdnoaihaa
open Go.RowKit

/-- block mb is the matrix of f; its first k columns alone -/
def Cols (f : BitVec 32 → BitVec 32) (k : Nat) (cs : List Value) : Prop := cs.length = 32 ∧ (∀ v ∈ cs, v.oneCell' = true) ∧ ∀ i, i < k → cs[i]? = some (U32 (f (1#32 <<< i)))
def Mat (w : World) (mb : Nat) (f : BitVec 32 → BitVec 32) : Prop := ∃ cs, Blk w mb 97 cs ∧ Cols f 32 cs
theorem Cols.set {f : BitVec 32 → BitVec 32} {k : Nat} {cs : List Value} (h : Cols f k cs) (hk : k < 32) : Cols f (k + 1) (cs.set k (U32 (f (1#32 <<< k)))) := by
  obtain ⟨h1, h2, h3⟩ := h
  refine ⟨by simpa using h1, fun v hv => ?_, fun i hi => ?_⟩
  · rcases List.mem_or_eq_of_mem_set hv with hv | rfl
    · exact h2 v hv
    · rfl
  · rw [List.getElem?_set]
    by_cases e : k = i
    · subst e; simp [h1, hk]
    · rw [if_neg e]; exact h3 i (by omega)
theorem Mat.cells {w : World} {mb : Nat} {f : BitVec 32 → BitVec 32} (h : Mat w mb f) : ∀ i, i < 32 → w.cell? ⟨mb, i, none⟩ = some (U32 (f (1#32 <<< i))) := by
  obtain ⟨cs, hb, _, _, hc⟩ := h
  intro i hi
  exact hb.is (hc i hi)
def SqPost (mb : Nat) (f : BitVec 32 → BitVec 32) (w : World) (e : Ending) (w' : World) : Prop :=
  e = .returned (.tuple #[]) ∧ Mat w' mb (fun x => f (f x)) ∧ Mod (· = mb) w w'

def sqRel (mb ob : Nat) (f : BitVec 32 → BitVec 32) (w wr : World) (k : Nat) : Prop :=
  Mat wr mb f ∧ Mod None w wr ∧ ∃ cs, Blk wr ob 97 cs ∧ Cols (fun x => f (f x)) k cs
theorem sq_cells {mb ob : Nat} {f : BitVec 32 → BitVec 32} {w wr : World} {k : Nat} (h : sqRel mb ob f w wr k) (hk : k < 32) :
    (∃ x, wr.cell? ⟨ob, k, none⟩ = some x) ∧ wr.frozen? ⟨ob, k, none⟩ = false := by
  obtain ⟨_, _, cs, hb, h1, _⟩ := h
  exact ⟨⟨_, hb.cellAt k (by omega)⟩, hb.free k⟩
theorem sq_step {mb : Nat} {f : BitVec 32 → BitVec 32} {w wr : World} {k : Nat} (h : sqRel mb w.heap.size f w wr k) (hk : k < 32) (hm : mb < w.heap.size) :
    sqRel mb w.heap.size f w (wr.setCell ⟨w.heap.size, k, none⟩ (.int .u32 ((f (f (1#32 <<< k))).toNat : Int))) (k + 1) := by
  obtain ⟨⟨ms, hmb, hmc⟩, hmod, cs, hb, hc⟩ := h
  exact ⟨⟨ms, hmb.set_other (by simp; omega) _, hmc⟩, hmod.set (.inr (Nat.le_refl _)) _, _, hb.set k _, hc.set hk⟩

theorem und97 : Try.prog.underlying 97 = some (.array 32 22) := by kernel_rfl
theorem size97 : (Try.prog.info? 97).map (·.size) = some 32 := by kernel_rfl

set_option maxHeartbeats 400000 in
theorem square_any (mb : Nat) (f : BitVec 32 → BitVec 32) (hf : PCrc.Lin f) (w : World) (hm : Mat w mb f) :
    Calls Try.prog 64 #[.pointer (some ⟨mb, 0, none⟩)] w (SqPost mb f w) := by
  have hlt : mb < w.heap.size := by obtain ⟨_, h, _⟩ := hm; exact h.lt
  go_enter Try.func64, Try.ntmps64
  go_wp2
  generalize hw1 : w.alloc _ = w1
  have h0 : sqRel mb w.heap.size f w w1 0 := by
    subst hw1
    obtain ⟨ms, hmb, hmc⟩ := hm
    exact ⟨⟨ms, hmb.alloc _, hmc⟩, (Mod.refl _ _).alloc _, _, Blk.new _ _ _, rfl, by intro v hv; simp at hv; subst hv; rfl, fun i hi => by omega⟩
  clear hw1 hm
  go_loopw [4] (fun i wr => ∃ k : Nat, k ≤ 32 ∧ i = .int .i64 k ∧ sqRel mb w.heap.size f w wr k) (fun i _ => 32 - (intOf i).toNat)
  case atStart => exact ⟨0, by omega, rfl, h0⟩
  case round =>
    obtain ⟨k, hk, rfl, hr⟩ := hrel
    clear h0
    by_cases hlt2 : k < 32
    · have hcell := hr.1.cells k hlt2
      obtain ⟨⟨ox, hox⟩, hof⟩ := sq_cells hr hlt2
      have HS := hid (sq_step hr hlt2 hlt)
      have HM := hid hr.1.cells
      generalize hy : f (1#32 <<< k) = y at hcell HS
      have HY := hid hy
      clear hy hr
      unfold U32 at hcell
      go_wp2_with (go_at_call 63; refine (times_any mb f hf y _ HM.out).mono ?_; rintro e w' ⟨rfl, rfl⟩)
      go_roundw
      case rel => exact ⟨k + 1, by omega, by go_num, HS.out⟩
      case measure => simp [intOf]; omega
    · obtain rfl : k = 32 := by omega
      obtain ⟨⟨ms, hmb, hmc⟩, hmod, cs, hb, hc⟩ := hr
      have HB := hid hb
      have HM := hid hmb
      have HC := hid hc
      have HMC := hid hmc
      have HMD := hid hmod
      clear hb hmb hc hmc hmod
      go_wp2_with (first
        | (refine wpList_load_row rfl 97 (.tmp 2) rfl w.heap.size rfl 97 cs.toArray (0, 0) _ HB.out und97 rfl (by rw [size97, List.size_toArray, HC.out.1]) ?_)
        | (refine wpList_store_row rfl 97 (.tmp 19) (.tmp 18) rfl mb cs.toArray rfl rfl 97 ms.toArray HM.out (by rw [size97, List.size_toArray, HC.out.1]) (by rw [List.size_toArray, List.size_toArray, HC.out.1, HMC.out.1]) (by simpa using HC.out.2.1) ?_))
      go_end0
      exact ⟨rfl, ⟨_, HM.out.row _, by simpa using HC.out⟩, Mod.row (S := fun k => k = mb) (g := mb) (HMD.out.mono (fun _ _ h => h.elim)) (.inl rfl) _⟩
end Go.Proofs.Ytdhhpnfdnoaihaa

/-! C7 -/
/- The contract of crc.Join. -/
namespace Go.Proofs.Ytdhhpnfdnoaihaa
open Go.RowKit

theorem step_zero (x : BitVec 32) (w : World) : Calls Try.prog 21 #[.int .u32 (x.toNat : Int), .int .u8 0] w fun e w' => e = .returned (U32 (PCrc.s8 x)) ∧ w = w' := by
  have h := step_any x 0 w
  have e : PCrc.step x (0 : UInt8).toBitVec = PCrc.s8 x := by
    unfold PCrc.step
    rw [show (0 : UInt8).toBitVec.setWidth 32 = 0#32 from rfl, BitVec.xor_zero]
  rw [e] at h; exact h

theorem shl1 (k : Nat) : (2 : Int) ^ k % 4294967296 = ((1#32 <<< k).toNat : Int) := by
  rw [BitVec.toNat_shiftLeft, Nat.shiftLeft_eq]
  simp
/-- the first k columns of a step with the byte 0 -/
def j1Rel (w wr : World) (k : Nat) : Prop := Mod None w wr ∧ ∃ cs, Blk wr w.heap.size 97 cs ∧ Cols PCrc.s8 k cs
theorem j1_cells {w wr : World} {k : Nat} (h : j1Rel w wr k) (hk : k < 32) :
    (∃ x, wr.cell? ⟨w.heap.size, k, none⟩ = some x) ∧ wr.frozen? ⟨w.heap.size, k, none⟩ = false := by
  obtain ⟨_, cs, hb, h1, _⟩ := h
  exact ⟨⟨_, hb.cellAt k (by omega)⟩, hb.free k⟩
theorem j1_step {w wr : World} {k : Nat} (h : j1Rel w wr k) (hk : k < 32) :
    j1Rel w (wr.setCell ⟨w.heap.size, k, none⟩ (.int .u32 ((PCrc.s8 (1#32 <<< k)).toNat : Int))) (k + 1) := by
  obtain ⟨hmod, cs, hb, hc⟩ := h
  exact ⟨hmod.set (.inr (Nat.le_refl _)) _, _, hb.set k _, hc.set hk⟩
def j2Rel (w wr : World) (a : BitVec 32) (n m : Nat) (x : BitVec 32) : Prop := Mod None w wr ∧ ∃ p r, p * m + r = n ∧ x = PCrc.pow r a ∧ Mat wr w.heap.size (PCrc.pow p)

theorem j2_end {w wr : World} {a : BitVec 32} {n : Nat} {x : BitVec 32} (h : j2Rel w wr a n 0 x) : x = PCrc.pow n a ∧ Mod None w wr := by
  obtain ⟨hmod, p, r, e, hx, _⟩ := h
  obtain rfl : r = n := by omega
  exact ⟨hx, hmod⟩
theorem mat_double {w : World} {b p : Nat} (h : Mat w b (fun x => PCrc.pow p (PCrc.pow p x))) : Mat w b (PCrc.pow (p + p)) := by
  have e : PCrc.pow (p + p) = fun x => PCrc.pow p (PCrc.pow p x) := by funext x; rw [PCrc.pow_add]
  rw [e]; exact h
theorem j2_even {w wr w2 : World} {a : BitVec 32} {n m p r : Nat} {x : BitVec 32} (hmod : Mod None w wr) (hx : x = PCrc.pow r a) (e : p * m + r = n) (h2 : m % 2 = 0)
    (hm2 : Mat w2 w.heap.size (fun x => PCrc.pow p (PCrc.pow p x))) (hmod2 : Mod (· = w.heap.size) wr w2) : j2Rel w w2 a n (m / 2) x := by
  refine ⟨hmod.then hmod2 (fun i hi e => by omega), p + p, r, ?_, hx, mat_double hm2⟩
  obtain ⟨q, rfl⟩ : ∃ q, m = 2 * q := ⟨m / 2, by omega⟩
  rw [show 2 * q / 2 = q by omega, ← e, Nat.add_mul, ← Nat.mul_assoc, Nat.mul_comm p 2, Nat.mul_assoc, Nat.two_mul (p * q)]
theorem j2_odd {w wr w2 : World} {a : BitVec 32} {n m p r : Nat} {x : BitVec 32} (hmod : Mod None w wr) (hx : x = PCrc.pow r a) (e : p * m + r = n) (h2 : m % 2 = 1)
    (hm2 : Mat w2 w.heap.size (fun x => PCrc.pow p (PCrc.pow p x))) (hmod2 : Mod (· = w.heap.size) wr w2) : j2Rel w w2 a n (m / 2) (PCrc.pow p x) := by
  refine ⟨hmod.then hmod2 (fun i hi e => by omega), p + p, r + p, ?_, ?_, mat_double hm2⟩
  · obtain ⟨q, rfl⟩ : ∃ q, m = 2 * q + 1 := ⟨m / 2, by omega⟩
    rw [show (2 * q + 1) / 2 = q by omega, ← e, Nat.add_mul, Nat.mul_add, ← Nat.mul_assoc, Nat.mul_comm p 2, Nat.mul_assoc, Nat.two_mul (p * q)]
    omega
  · rw [hx, PCrc.pow_add]
theorem and1_i64 (m : Nat) (h : m < 2 ^ 62) : bits .and .i64 (m : Int) 1 = ((m % 2 : Nat) : Int) := by
  have e1 : (BitVec.ofInt 64 (m : Int)).toNat = m := by
    rw [BitVec.ofInt_natCast, BitVec.toNat_ofNat]; exact Nat.mod_eq_of_lt (by omega)
  have e2 : (BitVec.ofInt 64 (1 : Int)).toNat = 1 := rfl
  show IntKind.i64.wrap ((BitVec.ofInt 64 (m : Int) &&& BitVec.ofInt 64 (1 : Int)).toNat : Int) = _
  rw [BitVec.toNat_and, e1, e2, Nat.and_one_is_mod]
  simp only [IntKind.wrap, IntKind.bits, IntKind.signed]
  simp
  omega

set_option maxHeartbeats 800000 in
theorem join_any (a b : BitVec 32) (n : Nat) (hn : n ≤ 1048576) (w : World) :
    Calls Try.prog 25 #[U32 a, U32 b, .int .i64 (n : Int)] w fun e w' => e = .returned (U32 (PCrc.pow n a ^^^ b)) ∧ Mod None w w' := by
  unfold U32
  go_enter Try.func25, Try.ntmps25
  go_wp2
  generalize hw1 : w.alloc _ = w1
  have h0 : j1Rel w w1 0 := by
    subst hw1
    exact ⟨(Mod.refl _ _).alloc _, _, Blk.new _ _ _, rfl, by intro v hv; simp at hv; subst hv; rfl, fun i hi => by omega⟩
  clear hw1
  go_loopw [9] (fun i wr => ∃ k : Nat, k ≤ 32 ∧ i = .int .i64 k ∧ j1Rel w wr k) (fun i _ => 32 - (intOf i).toNat)
  case atStart => exact ⟨0, by omega, rfl, h0⟩
  case round =>
    obtain ⟨k, hk, rfl, hr⟩ := hrel
    clear h0
    by_cases hlt2 : k < 32
    · obtain ⟨⟨ox, hox⟩, hof⟩ := j1_cells hr hlt2
      have HS := hid (j1_step hr hlt2)
      clear hr
      go_wp2_with (go_at_call 21; rw [shl1 k]; refine (step_zero _ _).mono ?_; rintro e w' ⟨rfl, rfl⟩)
      go_roundw
      case rel => exact ⟨k + 1, by omega, by go_num, HS.out⟩
      case measure => simp [intOf]; omega
    · obtain ⟨hmod, cs, hb, hc⟩ := hr
      have hr2 : j2Rel w wr a n n a := ⟨hmod, 1, 0, by omega, rfl, cs, hb, hc.1, hc.2.1, fun i hi => hc.2.2 i (by omega)⟩
      have HR := hid hr2
      clear hmod hb hc hr2
      have hmin : min (max (n : Int) 0) 1048576 = (n : Int) := by omega
      go_wp2
      obtain ⟨wo, hwo⟩ : ∃ wo : World, wo = wr := ⟨_, rfl⟩
      subst hwo
      go_loopw [0, 2] (fun x m wr => ∃ (m' : Nat) (x' : BitVec 32), m' ≤ n ∧ m = .int .i64 m' ∧ x = .int .u32 (x'.toNat : Int) ∧ Hid (j2Rel w wr a n m' x')) (fun _ m _ => (intOf m).toNat)
      case atStart => exact ⟨n, a, by omega, rfl, rfl, HR⟩
      case round =>
        obtain ⟨m, x, hm, rfl, rfl, hr⟩ := hrel
        clear HR hmin
        by_cases h0 : m = 0
        · subst h0
          have HE := hid (j2_end hr.out)
          clear hr
          go_wp2
          go_ret
          exact ⟨ret_int (by rw [xor32, HE.out.1]), HE.out.2⟩
        · have hpos : 0 < m := by omega
          clear h0
          obtain ⟨hmod, p, r, e, hx, hmat⟩ := hr.out
          have HM := hid hmat.cells
          have HMA := hid hmat
          have HMD := hid hmod
          have HX := hid hx
          have HEq := hid e
          clear hr hmod hmat hx e
          rcases Nat.mod_two_eq_zero_or_one m with h2 | h2
          · have hbit : bits .and .i64 (m : Int) 1 = 0 := by rw [and1_i64 m (by omega), h2]; rfl
            have H2 := hid h2
            clear h2
            go_wp2_with (go_at_call 64; refine (square_any _ (PCrc.pow p) (PCrc.lin_pow p) _ HMA.out).mono ?_; rintro e w' ⟨rfl, hm2, hmod2⟩; have HM2 := hid hm2; have HMD2 := hid hmod2; clear hm2 hmod2)
            go_roundw
            case rel => exact ⟨m / 2, x, by omega, by go_num, rfl, j2_even HMD.out HX.out HEq.out H2.out HM2.out HMD2.out⟩
            case measure => simp [intOf]; omega
          · have hbit : bits .and .i64 (m : Int) 1 = 1 := by rw [and1_i64 m (by omega), h2]; rfl
            have H2 := hid h2
            clear h2
            go_wp2_with (first
              | (go_at_call 63; refine (times_any _ (PCrc.pow p) (PCrc.lin_pow p) x _ HM.out).mono ?_; rintro e w' ⟨rfl, rfl⟩)
              | (go_at_call 64; refine (square_any _ (PCrc.pow p) (PCrc.lin_pow p) _ HMA.out).mono ?_; rintro e w' ⟨rfl, hm2, hmod2⟩; have HM2 := hid hm2; have HMD2 := hid hmod2; clear hm2 hmod2))
            go_roundw
            case rel => exact ⟨m / 2, PCrc.pow p x, by omega, by go_num, rfl, j2_odd HMD.out HX.out HEq.out H2.out HM2.out HMD2.out⟩
            case measure => simp [intOf]; omega
end Go.Proofs.Ytdhhpnfdnoaihaa

/-! C8 -/
/- awake of layer 2. -/
namespace Go.Proofs.Ytdhhpnfdnoaihaa
open Go.RowKit

theorem und27 : Try.prog.underlying 27 = some (.slice 5) := by kernel_rfl
theorem und5 : Try.prog.underlying 5 = some (.int .u8) := by kernel_rfl
theorem csum9 : ((csum [49, 50, 51, 52, 53, 54, 55, 56, 57]).toNat : Int) = 3421780262 := by decide +kernel
theorem join9 : ((PCrc.pow 5 (csum [49, 50, 51, 52]) ^^^ csum [53, 54, 55, 56, 57]).toNat : Int) = 3421780262 := by decide +kernel
theorem sum_nil (w : World) : Calls Try.prog 24 #[.slice none 0 0] w fun e w' => e = .returned (.int .u32 0) ∧ w = w' :=
  (sum_any none 0 [] w (.inl rfl) (by simp)).mono fun e w' ⟨h, h'⟩ => ⟨h, h'⟩
theorem cell_new (W : World) (C : Array Value) (t : TypeId) (fr : Nat × Nat) (i : Nat) : (W.alloc (.cells C t fr)).cell? ⟨W.heap.size, i, none⟩ = C[i]? := by
  have := heap_alloc_new W (.cells C t fr)
  unfold World.cell?; rw [this]; rfl
theorem bytes_const (w : World) (C : Array Value) (n c p : Nat) (hp : p = w.heap.size) : (convert 27 27 (.slice (some ⟨p, 0, none⟩) n c)).run Try.prog (w.alloc (.cells C 5)) = .ok (.slice (some ⟨p, 0, none⟩) n c) (w.alloc (.cells C 5 (C.size, C.size + 1))) := by
  subst hp; exact Lib.run_convert_bytes_const w 27 5 C n c und27 und5
/-- a sum of one part that the text spells out -/
theorem sum_lit (W : World) (C : Array Value) (l : List UInt8) (hC : C = (l.map B).toArray) (n : Nat) (hn : n = l.length) (fr : Nat × Nat) (p q : Nat) (hp : p = W.heap.size) (hq : q = W.heap.size + 1)
    (v : Int) (hv : ((csum l).toNat : Int) = v) (hl : l.length ≤ 100) :
    Calls Try.prog 24 #[.slice (some ⟨q, 0, none⟩) 1 1] ((W.alloc (.cells C 5 fr)).alloc (.cells #[.slice (some ⟨p, 0, none⟩) n n] 27))
      fun e w' => e = .returned (.int .u32 v) ∧ (W.alloc (.cells C 5 fr)).alloc (.cells #[.slice (some ⟨p, 0, none⟩) n n] 27) = w' := by
  subst hp hq hC hn
  have h1 : ∀ i, ((W.alloc (.cells (l.map B).toArray 5 fr)).alloc (.cells #[.slice (some ⟨W.heap.size, 0, none⟩) l.length l.length] 27)).cell? ⟨W.heap.size, i, none⟩ = (l.map B)[i]? := by
    intro i
    rw [World.cell?_alloc_old _ _ _ (by simp)]
    rw [cell_new]; simp
  have h2 : ((W.alloc (.cells (l.map B).toArray 5 fr)).alloc (.cells #[.slice (some ⟨W.heap.size, 0, none⟩) l.length l.length] 27)).cell? ⟨W.heap.size + 1, 0, none⟩ = some (.slice (some ⟨W.heap.size, 0, none⟩) l.length l.length) := by
    rw [World.cell?_alloc_at _ _ _ _ (by simp)]; rfl
  refine (sum_any (some ⟨W.heap.size + 1, 0, none⟩) 1 [l] _ (.inr ⟨_, 0, rfl, fun i hi => ?_⟩) (by simp)).mono fun e w' ⟨h, h'⟩ => ⟨by rw [h]; simp only [U32, List.flatten_cons, List.flatten_nil, List.append_nil, hv], h'⟩
  obtain rfl : i = 0 := by simpa using hi
  exact ⟨_, h2, _, _, rfl, .inr ⟨_, 0, rfl, fun i hi => by rw [Nat.zero_add]; exact h1 i⟩, by show l.length ≤ _; omega⟩
theorem join_lit (w : World) :
    Calls Try.prog 25 #[.int .u32 ((csum [49, 50, 51, 52]).toNat : Int), .int .u32 ((csum [53, 54, 55, 56, 57]).toNat : Int), .int .i64 5] w fun e w' => e = .returned (.int .u32 3421780262) ∧ Mod None w w' :=
  (join_any _ _ 5 (by omega) w).mono fun e w' ⟨h, h'⟩ => ⟨by rw [h]; unfold U32; rw [join9], h'⟩

set_option maxRecDepth 100000 in
set_option maxHeartbeats 800000 in
theorem awake2_any (w : World) :
    Calls Try.prog 20 #[] w fun e w' => e = .returned (.bool true) ∧ Mod None w w' := by
  have kc := bytes_const
  go_enter Try.func20, Try.ntmps20
  go_wp2_with fail
  refine (sum_lit _ _ [49, 50, 51, 52, 53, 54, 55, 56, 57] rfl _ rfl _ _ _ (by simp) (by simp) _ csum9 (by decide)).mono ?_
  rintro e w' ⟨rfl, rfl⟩
  go_wp2_with fail
  refine (sum_nil _).mono ?_
  rintro e w' ⟨rfl, rfl⟩
  go_wp2_with fail
  refine (sum_lit _ _ [49, 50, 51, 52] rfl _ rfl _ _ _ (by simp) (by simp) _ rfl (by decide)).mono ?_
  rintro e w' ⟨rfl, rfl⟩
  go_wp2_with fail
  refine (sum_lit _ _ [53, 54, 55, 56, 57] rfl _ rfl _ _ _ (by simp) (by simp) _ rfl (by decide)).mono ?_
  rintro e w' ⟨rfl, rfl⟩
  go_wp2_with fail
  refine (join_lit _).mono ?_
  rintro e w' ⟨rfl, hm⟩
  have HM := hid hm
  clear hm
  go_wp2_with fail
  go_ret
  exact ⟨rfl, Mod.trans (((((((Mod.refl _ _).alloc _).alloc _).alloc _).alloc _).alloc _).alloc _) HM.out⟩
end Go.Proofs.Ytdhhpnfdnoaihaa

/-! W1 -/
/- The walks of CrcSteps and CrcBack. -/
namespace Go.Proofs.Ytdhhpnfdnoaihaa
open Go.RowKit

theorem open_u32 {a : Int} (h : (Lit.int .u32 a).wf = true) : ∃ c : BitVec 32, a = (c.toNat : Int) := by
  have hb : 0 ≤ a ∧ a ≤ 4294967295 := by simpa [Lit.wf, IntKind.min, IntKind.max, IntKind.signed, IntKind.bits] using h
  refine ⟨BitVec.ofNat 32 a.toNat, ?_⟩
  rw [BitVec.toNat_ofNat]; omega
theorem open_u8 {a : Int} (h : (Lit.int .u8 a).wf = true) : ∃ c : UInt8, a = (c.toNat : Int) := by
  have hb : 0 ≤ a ∧ a ≤ 255 := by simpa [Lit.wf, IntKind.min, IntKind.max, IntKind.signed, IntKind.bits] using h
  refine ⟨UInt8.ofNat a.toNat, ?_⟩
  rw [UInt8.toNat_ofNat']; omega

set_option maxHeartbeats 400000 in
theorem CrcSteps_walk (w : World) (a0 : Int) (w0 : (Lit.int .u32 a0).wf = true) (a1 : Int) (w1 : (Lit.int .u8 a1).wf = true) :
    Calls Try.prog 3 #[.int .u32 a0, .int .u8 a1] w fun e w' => e = .returned (.bool true) ∧ Below w.heap.size w w' := by
  obtain ⟨c, rfl⟩ := open_u32 w0
  obtain ⟨b, rfl⟩ := open_u8 w1
  clear w0 w1
  go_enter Try.func3, Try.ntmps3
  go_wp2_with (first
    | (go_at_call 20; refine (awake2_any _).mono ?_; rintro e w' ⟨rfl, hm⟩; have HM := hid hm; clear hm)
    | (go_at_call 21; refine (step_any c b _).mono ?_; rintro e w' ⟨rfl, rfl⟩)
    | (go_at_call 22; refine (refstep_any c b _).mono ?_; rintro e w' ⟨rfl, rfl⟩))
  go_ret
  exact ⟨ret_bool (by simp), HM.out.below _ (Nat.le_refl _) (fun _ h => h.elim)⟩
end Go.Proofs.Ytdhhpnfdnoaihaa

/-! W2 -/
/- The walk of CrcBack. -/
namespace Go.Proofs.Ytdhhpnfdnoaihaa
open Go.RowKit

theorem beq32 (x y : BitVec 32) : ((x.toNat : Int) == (y.toNat : Int)) = decide (x = y) := by
  rw [Bool.eq_iff_iff]
  simp only [beq_iff_eq, decide_eq_true_eq]
  exact ⟨fun h => BitVec.eq_of_toNat_eq (by omega), fun h => by rw [h]⟩
theorem crun_inj {c d : BitVec 32} (l : List UInt8) : crun c l = crun d l ↔ c = d :=
  ⟨fun h => PCrc.run_inj _ h, fun h => by rw [h]⟩
theorem back_end (c d : BitVec 32) (l : List UInt8) : ((((crun c l).toNat : Int) == ((crun d l).toNat : Int)) == ((c.toNat : Int) == (d.toNat : Int))) = true := by
  rw [beq32, beq32]
  by_cases h : c = d
  · have h' := (crun_inj l).2 h
    simp [h]
  · have h' : crun c l ≠ crun d l := fun x => h ((crun_inj l).1 x)
    simp [h, h']

set_option maxHeartbeats 800000 in
theorem CrcBack_walk (w : World) (a0 : Int) (w0 : (Lit.int .u32 a0).wf = true) (a1 : Int) (w1 : (Lit.int .u32 a1).wf = true) (v2 : Value) (l2 : List UInt8) (w2 : VBytes w v2 l2) :
    Calls Try.prog 7 #[.int .u32 a0, .int .u32 a1, v2] w fun e w' => e = .returned (.bool true) ∧ Below w.heap.size w w' := by
  obtain ⟨c, rfl⟩ := open_u32 w0
  obtain ⟨d, rfl⟩ := open_u32 w1
  obtain ⟨a, cap, rfl, hlen, hrd⟩ := w2
  clear w0 w1
  have HR := hid hrd
  clear hrd
  by_cases hbig : l2.length > 1048576
  · have hb' : (1048576 : Int) < (l2.length : Int) := by omega
    clear hlen
    go_enter Try.func7, Try.ntmps7
    go_wp2_with fail
    refine (awake2_any _).mono ?_
    rintro e w' ⟨rfl, hm⟩
    have HM := hid hm; clear hm
    go_wp2_with fail
    refine (awake2_any _).mono ?_
    rintro e w'' ⟨rfl, hm⟩
    have HM2 := hid hm; clear hm
    go_wp2_with fail
    go_ret
    exact ⟨rfl, (HM.out.trans HM2.out).below _ (Nat.le_refl _) (fun _ h => h.elim)⟩
  · have hb' : ¬ ((1048576 : Int) < (l2.length : Int)) := by omega
    go_enter Try.func7, Try.ntmps7
    go_wp2_with fail
    refine (awake2_any _).mono ?_
    rintro e w' ⟨rfl, hm⟩
    have HR' := hid (hm.rd HR.out (fun _ _ h => h.elim))
    have HM := hid (hm.below _ (Nat.le_refl _) (fun _ h => h.elim))
    clear hm HR
    rcases HR'.out with h | ⟨b, o, rfl, hc⟩
    · obtain rfl : l2 = [] := by simpa using h
      go_wp2_with fail
      refine wp_loop_rounds 1 ?_
      rw [rounds_succ]
      go_wp2
      go_ret
      exact ⟨ret_bool (by simp), HM.out⟩
    · have HC := hid (@Rd.at w' b o l2 hc)
      clear hc HR'
      go_wp2_with fail
      go_loop [7, 8, 9] (fun x y i => ∃ k : Nat, k ≤ l2.length ∧ i = .int .i64 k ∧ x = U32 (crun c (l2.take k)) ∧ y = U32 (crun d (l2.take k))) (fun _ _ i => l2.length - (intOf i).toNat)
      case atStart => exact ⟨0, by omega, rfl, rfl, rfl⟩
      case round =>
        obtain ⟨k, hk, rfl, rfl, rfl⟩ := hrel
        by_cases hlt : k < l2.length
        · have hck := HC.out k hlt
          have HX := hid (crun_take c l2 k hlt)
          have HY := hid (crun_take d l2 k hlt)
          generalize l2[k] = bk at hck HX HY
          generalize crun c (l2.take k) = x at HX ⊢
          generalize crun d (l2.take k) = y at HY ⊢
          unfold U32
          go_wp2_with fail
          refine (step_any x bk _).mono ?_
          rintro e w'' ⟨rfl, rfl⟩
          go_wp2_with fail
          refine (step_any y bk _).mono ?_
          rintro e w'' ⟨rfl, rfl⟩
          go_wp2_with fail
          go_round
          case rel => exact ⟨k + 1, by omega, by go_num, by rw [HX.out], by rw [HY.out]⟩
          case measure => simp [intOf]; omega
        · obtain rfl : k = l2.length := by omega
          have HE := hid (back_end c d (l2.take l2.length))
          generalize crun c (l2.take l2.length) = x at HE ⊢
          generalize crun d (l2.take l2.length) = y at HE ⊢
          unfold U32
          go_wp2
          go_ret
          exact ⟨ret_bool HE.out, HM.out⟩
end Go.Proofs.Ytdhhpnfdnoaihaa

/-! W3 -/
/- The walk of CrcJoins. -/
namespace Go.Proofs.Ytdhhpnfdnoaihaa
open Go.RowKit

theorem Part.mod {S : Nat → Prop} {w w' : World} (h : Mod S w w') {v : Value} {l : List UInt8} (hp : Part w v l) (hn : ∀ i, i < w.heap.size → ¬ S i) : Part w' v l := by
  obtain ⟨a, c, rfl, hr, hl⟩ := hp
  refine ⟨a, c, rfl, ?_, hl⟩
  rcases hr with hr | ⟨b, o, rfl, hc⟩
  · exact .inl hr
  · by_cases h0 : l.map B = []
    · exact .inl h0
    · have hlt := RdV.lt (.inr ⟨b, o, rfl, hc⟩) h0
      exact h.rd (.inr ⟨b, o, rfl, hc⟩) (fun x e => by cases e; exact hn b hlt)
theorem VBytes.part {w : World} {v : Value} {l : List UInt8} (h : VBytes w v l) : Part w v l := by
  obtain ⟨a, c, rfl, hl, hr⟩ := h; exact ⟨a, c, rfl, hr, hl⟩
/-- the sum of parts whose slice was just made -/
theorem sum_made (W : World) (ls : List (List UInt8)) (C : Array Value) (n q : Nat) (hn : n = ls.length) (hq : q = W.heap.size) (hs : C.size = ls.length) (hl : ls.length ≤ 100)
    (hp : ∀ i, (h : i < ls.length) → ∃ v, C[i]? = some v ∧ Part W v ls[i]) (l : List UInt8) (hf : ls.flatten = l) :
    Calls Try.prog 24 #[.slice (some ⟨q, 0, none⟩) n n] (W.alloc (.cells C 27)) fun e w' => e = .returned (U32 (csum l)) ∧ W.alloc (.cells C 27) = w' := by
  subst hn hq hf
  refine (sum_any (some ⟨W.heap.size, 0, none⟩) ls.length ls _ (.inr ⟨_, 0, rfl, fun i hi => ?_⟩) (by omega)).mono fun e w' h => h
  obtain ⟨v, hv, hpv⟩ := hp i hi
  exact ⟨v, by rw [Nat.zero_add, cell_new, hv], hpv.mod ((Mod.refl None _).alloc _) (fun _ _ h => h)⟩
theorem joins_eq (a b : List UInt8) : PCrc.pow b.length (csum a) ^^^ csum b = csum (a ++ b) := by
  have := PCrc.join (a.map UInt8.toBitVec) (b.map UInt8.toBitVec)
  rw [List.length_map, ← List.map_append] at this; exact this

set_option maxHeartbeats 800000 in
theorem CrcJoins_walk (w : World) (v0 : Value) (l0 : List UInt8) (w0 : VBytes w v0 l0) (v1 : Value) (l1 : List UInt8) (w1 : VBytes w v1 l1) :
    Calls Try.prog 5 #[v0, v1] w fun e w' => e = .returned (.bool true) ∧ Below w.heap.size w w' := by
  have hp0 := w0.part
  have hp1 := w1.part
  obtain ⟨a0, c0, rfl, hl0, _⟩ := w0
  obtain ⟨a1, c1, rfl, hl1, _⟩ := w1
  have HP0 := hid hp0
  have HP1 := hid hp1
  clear hp0 hp1
  by_cases h0 : l0.length > 524288
  · have hb' : (524288 : Int) < (l0.length : Int) := by omega
    clear hl0 hl1
    go_enter Try.func5, Try.ntmps5
    go_wp2_with fail
    refine (awake2_any _).mono ?_
    rintro e w' ⟨rfl, hm⟩
    have HM := hid hm; clear hm
    go_wp2_with fail
    refine (awake2_any _).mono ?_
    rintro e w'' ⟨rfl, hm⟩
    have HM2 := hid hm; clear hm
    go_wp2_with fail
    go_ret
    exact ⟨rfl, (HM.out.trans HM2.out).below _ (Nat.le_refl _) (fun _ h => h.elim)⟩
  · by_cases h1 : l1.length > 524288
    · have hb' : (524288 : Int) < (l1.length : Int) := by omega
      have hb'' : ¬ (524288 : Int) < (l0.length : Int) := by omega
      clear hl0 hl1
      go_enter Try.func5, Try.ntmps5
      go_wp2_with fail
      refine (awake2_any _).mono ?_
      rintro e w' ⟨rfl, hm⟩
      have HM := hid hm; clear hm
      go_wp2_with fail
      refine (awake2_any _).mono ?_
      rintro e w'' ⟨rfl, hm⟩
      have HM2 := hid hm; clear hm
      go_wp2_with fail
      go_ret
      exact ⟨rfl, (HM.out.trans HM2.out).below _ (Nat.le_refl _) (fun _ h => h.elim)⟩
    · have hb' : ¬ (524288 : Int) < (l1.length : Int) := by omega
      have hb'' : ¬ (524288 : Int) < (l0.length : Int) := by omega
      have hle : l1.length ≤ 1048576 := by omega
      have HLE := hid hle
      clear hl0 hl1 hle
      go_enter Try.func5, Try.ntmps5
      go_wp2_with fail
      refine (awake2_any _).mono ?_
      rintro e w' ⟨rfl, hm⟩
      have HQ0 := hid (HP0.out.mod hm (fun _ _ h => h))
      have HQ1 := hid (HP1.out.mod hm (fun _ _ h => h))
      have HM := hid hm
      clear hm HP0 HP1
      go_wp2_with fail
      refine (sum_made _ [l0] _ _ _ rfl (by simp) rfl (by simp) (fun i hi => ?_) l0 (by simp)).mono ?_
      · obtain rfl : i = 0 := by simpa using hi
        exact ⟨_, rfl, HQ0.out⟩
      rintro e w2 ⟨rfl, rfl⟩
      go_wp2_with fail
      refine (sum_made _ [l1] _ _ _ rfl (by simp) rfl (by simp) (fun i hi => ?_) l1 (by simp)).mono ?_
      · obtain rfl : i = 0 := by simpa using hi
        exact ⟨_, rfl, HQ1.out.mod ((Mod.refl None _).alloc _) (fun _ _ h => h)⟩
      rintro e w2 ⟨rfl, rfl⟩
      go_wp2_with fail
      refine (join_any (csum l0) (csum l1) l1.length HLE.out _).mono ?_
      rintro e w2 ⟨rfl, hm2⟩
      have HQ2 := hid ((HQ0.out.mod (((Mod.refl None _).alloc _).alloc _) (fun _ _ h => h)).mod hm2 (fun _ _ h => h))
      have HQ3 := hid ((HQ1.out.mod (((Mod.refl None _).alloc _).alloc _) (fun _ _ h => h)).mod hm2 (fun _ _ h => h))
      have HM2 := hid (((HM.out.alloc _).alloc _).trans hm2)
      clear hm2 HQ0 HQ1 HM
      rw [joins_eq]
      go_wp2_with fail
      refine (sum_made _ [l0, l1] _ _ _ rfl rfl rfl (by simp) (fun i hi => ?_) (l0 ++ l1) (by simp)).mono ?_
      · match i, hi with
        | 0, _ => exact ⟨_, rfl, HQ2.out⟩
        | 1, _ => exact ⟨_, rfl, HQ3.out⟩
      rintro e w3 ⟨rfl, rfl⟩
      go_wp2_with fail
      go_ret
      exact ⟨ret_bool (by simp), (HM2.out.alloc _).below _ (Nat.le_refl _) (fun _ h => h.elim)⟩
end Go.Proofs.Ytdhhpnfdnoaihaa

/-! W4 -/
/- The walk of CrcSums. -/
namespace Go.Proofs.Ytdhhpnfdnoaihaa
open Go.RowKit

theorem part_len {w : World} {v : Value} {l : List UInt8} (h : Part w v l) : ∃ a c, v = .slice a l.length c ∧ Rd w a l := by
  obtain ⟨a, c, h1, h2, _⟩ := h; exact ⟨a, c, h1, h2⟩
/-- the parts, in whatever later world -/
theorem VBytess.ss {w : World} {a : Option Addr} {ls : List (List UInt8)} (h : Seen w 1 (EBytes w) a ls) {w' : World} (hm : Mod None w w') : RdSS w' a ls := by
  rcases h with rfl | ⟨b, o, rfl, hx⟩
  · exact .inl rfl
  · refine .inr ⟨b, o, rfl, fun i hi => ?_⟩
    obtain ⟨cs, hl, ⟨v, rfl, hv⟩, hc⟩ := hx i hi
    have h1 := hc 0 (by omega)
    rw [Nat.mul_one, Nat.add_zero] at h1
    have h1' : w.cell? ⟨b, o + i, none⟩ = some v := h1
    exact ⟨v, by rw [hm.cell (p := ⟨b, o + i, none⟩) (World.block_lt_of_cell? w _ h1') (fun h => h)]; exact h1', hv.part.mod hm (fun _ _ h => h)⟩

theorem rd_take {w : World} {a : Option Addr} {l : List UInt8} (h : Rd w a l) (c : Nat) : Rd w a (l.take c) := by
  rcases h with h | ⟨b, o, rfl, hc⟩
  · left; simp at h; simp [h]
  · refine .inr ⟨b, o, rfl, fun i hi => ?_⟩
    have hi' : i < c ∧ i < l.length := by simpa [Nat.lt_min] using hi
    rw [hc i (by simpa using hi'.2)]
    simp [hi'.1]
theorem rd_drop {w : World} {b o : Nat} {l : List UInt8} (h : Rd w (some ⟨b, o, none⟩) l) (c : Nat) : Rd w (some ⟨b, o + c, none⟩) (l.drop c) := by
  rcases h with h | ⟨b', o', e, hc⟩
  · left; simp at h; simp [h]
  · obtain ⟨rfl, rfl⟩ : b = b' ∧ o = o' := by simpa using e
    refine .inr ⟨b, o + c, rfl, fun i hi => ?_⟩
    have hi' : i < l.length - c := by simpa using hi
    rw [Nat.add_assoc, hc (c + i) (by simp; omega)]
    simp
theorem part_take {w : World} {a : Option Addr} {l : List UInt8} (h : Rd w a l) {c : Nat} (hc : c ≤ l.length) (hl : l.length ≤ 140737488351232) (k : Nat) : Part w (.slice a c k) (l.take c) :=
  ⟨a, k, by rw [List.length_take, Nat.min_eq_left hc], rd_take h c, by rw [List.length_take]; omega⟩
theorem part_drop {w : World} {a : Option Addr} {l : List UInt8} (h : Rd w a l) {c : Nat} (hc : c ≤ l.length) (hl : l.length ≤ 140737488351232) {vc : Nat} (hcap : l.length ≤ vc) :
    Part w (.slice (if vc = c then a else a.map (·.add c)) (l.length - c) (vc - c)) (l.drop c) := by
  refine ⟨_, vc - c, by rw [List.length_drop], ?_, by rw [List.length_drop]; omega⟩
  by_cases hv : vc = c
  · left
    have : l.drop c = [] := by rw [List.drop_eq_nil_iff]; omega
    rw [this]; rfl
  · rw [if_neg hv]
    cases a with
    | none =>
      left
      rcases h with h | ⟨_, _, e, _⟩
      · simp at h; simp [h]
      · cases e
    | some x =>
      rcases h with h | ⟨b, o, e, hx⟩
      · left; simp at h; simp [h]
      · obtain rfl : x = ⟨b, o, none⟩ := by simpa using e
        rw [Option.map_some, addr_add]
        exact rd_drop (.inr ⟨b, o, rfl, hx⟩) c
theorem sums3 (W : World) (a X : Option Addr) (n m k1 k2 : Nat) (l1 l2 fl : List UInt8) (h1 : Part W (.slice a n k1) l1) (h2 : Part W (.slice X m k2) l2) (hf : l1 ++ l2 = fl) :
    Calls Try.prog 24 #[.slice (some ⟨W.heap.size, 0, none⟩) 3 3] (W.alloc (.cells #[.slice a n k1, .slice none 0 0, .slice X m k2] 27)).drew
      fun e w' => e = .returned (U32 (csum fl)) ∧ (W.alloc (.cells #[.slice a n k1, .slice none 0 0, .slice X m k2] 27)).drew = w' := by
  refine sum_made W.drew [l1, [], l2] _ 3 _ rfl rfl rfl (by simp) (fun i hi => ?_) fl (by simpa using hf)
  match i, hi with
  | 0, _ => exact ⟨_, rfl, h1.mod (Mod.refl None W).drew (fun _ _ h => h)⟩
  | 1, _ => exact ⟨_, rfl, none, 0, rfl, .inl rfl, by simp⟩
  | 2, _ => exact ⟨_, rfl, h2.mod (Mod.refl None W).drew (fun _ _ h => h)⟩
def sumsRel (w wr : World) (ls : List (List UInt8)) (k : Nat) (v : Value) : Prop :=
  OwnB wr w.heap.size v (ls.take k).flatten ∧ Mod None w wr ∧ (ls.take k).flatten.length ≤ 2097152

set_option maxRecDepth 100000 in
set_option maxHeartbeats 1600000 in
theorem CrcSums_walk (w : World) (v0 : Value) (l0 : List (List UInt8)) (w0 : VBytess w v0 l0) (a1 : Int) (w1 : (Lit.int .i64 a1).wf = true) :
    Calls Try.prog 4 #[v0, .int .i64 a1] w fun e w' => e = .returned (.bool true) ∧ Below w.heap.size w w' := by
  obtain ⟨a, cap, rfl, hll, hseen⟩ := w0
  have HS := hid (fun w' hm => VBytess.ss hseen (w' := w') hm)
  have hle : l0.length ≤ 140737488351232 := by omega
  clear hseen hll
  go_enter Try.func4, Try.ntmps4
  go_wp2_with fail
  go_loopw [5, 6] (fun v i wr => ∃ k : Nat, k ≤ l0.length ∧ i = .int .i64 k ∧ Hid (∃ b c, v = .slice b (l0.take k).flatten.length c) ∧ Hid (sumsRel w wr l0 k v)) (fun _ i _ => l0.length - (intOf i).toNat)
  case atStart => exact ⟨0, by omega, rfl, ⟨none, 0, rfl⟩, OwnB.nil _ _, Mod.refl _ _, by simp⟩
  case round =>
    obtain ⟨k, hk, rfl, hv, hr⟩ := hrel
    obtain ⟨vb, vc, rfl⟩ := hv.out
    have hfl := hr.out.2.2
    clear hv
    by_cases hlt : k < l0.length
    · rcases HS.out wr hr.out.2.1 with rfl | ⟨b, o, rfl, hcell⟩
      · simp at hlt
      obtain ⟨pv, hpv, hpart⟩ := hcell k hlt
      obtain ⟨pa, pc, rfl, hprd⟩ := part_len hpart
      have HP := hid hprd
      clear hprd hpart hcell
      have HF := hid (flatten_take l0 k hlt)
      generalize hp : l0[k] = p at *
      by_cases hb1 : 1048576 < (l0.take k).flatten.length
      · have hb1' : (1048576 : Int) < ((l0.take k).flatten.length : Int) := by omega
        have HMM := hid hr.out.2.1
        generalize (l0.take k).flatten.length = fl at *
        clear hr hfl hb1 HF HP hp
        go_wp2_with fail
        refine (awake2_any _).mono ?_
        rintro e w' ⟨rfl, hm⟩
        have HM := hid hm; clear hm
        go_wp2_with fail
        go_ret
        exact ⟨rfl, (HMM.out.trans HM.out).below _ (Nat.le_refl _) (fun _ h => h.elim)⟩
      · by_cases hb2 : 1048576 < p.length
        · have hb1' : ¬ (1048576 : Int) < ((l0.take k).flatten.length : Int) := by omega
          have hb2' : (1048576 : Int) < (p.length : Int) := by omega
          have HMM := hid hr.out.2.1
          generalize (l0.take k).flatten.length = fl at *
          clear hr hfl hb1 hb2 HF HP hp
          generalize p.length = pl at *
          go_wp2_with fail
          refine (awake2_any _).mono ?_
          rintro e w' ⟨rfl, hm⟩
          have HM := hid hm; clear hm
          go_wp2_with fail
          go_ret
          exact ⟨rfl, (HMM.out.trans HM.out).below _ (Nat.le_refl _) (fun _ h => h.elim)⟩
        · have hb1' : ¬ (1048576 : Int) < ((l0.take k).flatten.length : Int) := by omega
          have hb2' : ¬ (1048576 : Int) < (p.length : Int) := by omega
          have hlen : (l0.take (k + 1)).flatten.length ≤ 2097152 := by rw [HF.out, List.length_append]; omega
          have HLEN := hid hlen
          have HO0 := hid hr.out.1
          have HM0 := hid hr.out.2.1
          clear hlen hb1 hb2 hfl hr
          generalize hfl : (l0.take k).flatten = fl at *
          have HFL := hid hfl
          have HPP := hid hp
          clear hfl hp
          have HB := hid (show ∀ va vc, ∃ b c, Value.slice va (l0.take (k + 1)).flatten.length vc = .slice b (l0.take (k + 1)).flatten.length c from fun _ _ => ⟨_, _, rfl⟩)
          generalize hn2 : (l0.take (k + 1)).flatten.length = n2 at *
          go_wp2_with (at_builtin; go_loud (refine wpList_append_b2 rfl (.tmp 26) (.tmp 30) rfl w.heap.size _ fl rfl HO0.out pa p _ _ rfl rfl HP.out (by omega) HM0.out.size _ HF.out n2 hn2.symm None w HM0.out (Nat.le_refl _) ?_); intro va vcap w' HO HG)
          go_roundw
          case rel => exact ⟨k + 1, by omega, by go_num, by rw [hn2]; exact HB.out _ _, HO.out, HG.out, by rw [hn2]; exact HLEN.out⟩
          case measure => simp [intOf]; omega
    · obtain rfl : k = l0.length := by omega
      have ho := hr.out.1
      have hm := hr.out.2.1
      rw [List.take_length] at ho hfl
      have hcap : l0.flatten.length ≤ vc := ho.cap
      simp only [List.take_length]
      have HO := hid ho
      have HM := hid hm
      have hrd : Rd wr vb l0.flatten := by
        obtain ⟨a, c, e, h⟩ := ho.rd
        cases e; exact h
      have HRD := hid hrd
      clear ho hm hr hrd
      generalize hfg : l0.flatten = fl at *
      have HFG := hid hfg
      clear hfg
      go_wp2_with fail
      refine (refsum_any vb vc fl _ HRD.out (by omega)).mono ?_
      rintro e w' ⟨rfl, rfl⟩
      go_wp2_with fail
      refine (awake2_any _).mono ?_
      rintro e wx ⟨rfl, hm1⟩
      have HM1 := hid (HM.out.trans hm1)
      have HRD1 := hid (hm1.rd HRD.out (fun _ _ h => h))
      clear hm1 HRD HM HO
      go_wp2_with fail
      refine (sum_any a cap l0 _ (HS.out _ HM1.out) hle).mono ?_
      rintro e w2 ⟨rfl, rfl⟩
      rw [HFG.out]
      go_wp2_with fail
      refine (sum_made _ [fl] _ _ _ rfl (by simp) rfl (by simp) (fun i hi => ?_) fl (by simp)).mono ?_
      · obtain rfl : i = 0 := by simpa using hi
        exact ⟨_, rfl, _, _, rfl, HRD1.out, by show fl.length ≤ _; omega⟩
      rintro e w2 ⟨rfl, rfl⟩
      by_cases h1 : a1 < 0 ∨ (fl.length : Int) < a1
      · clear HS HFG HRD1 hcap w1 hlt hk
        go_wp2_with fail
        all_goals
          go_ret
          exact ⟨rfl, (HM1.out.alloc _).below _ (Nat.le_refl _) (fun _ h => h.elim)⟩
      · obtain ⟨c, rfl⟩ : ∃ c : Nat, a1 = c := ⟨a1.toNat, by omega⟩
        have hc : c ≤ fl.length := by omega
        have h1' : ¬ ((c : Int) < 0) := by omega
        have h2' : ¬ ((fl.length : Int) < (c : Int)) := by omega
        clear h1 w1
        have HP1 := hid (part_take HRD1.out hc (by omega) vc)
        have HP2 := hid (part_drop HRD1.out hc (by omega) hcap)
        clear HRD1 HS HFG
        go_wp2_with fail
        have HMX := hid (HM1.out.alloc (.cells #[Value.slice vb fl.length vc] 27))
        have HQ1 := hid (HP1.out.mod ((Mod.refl None _).alloc (.cells #[Value.slice vb fl.length vc] 27)) (fun _ _ h => h))
        have HQ2 := hid (HP2.out.mod ((Mod.refl None _).alloc (.cells #[Value.slice vb fl.length vc] 27)) (fun _ _ h => h))
        clear HP1 HP2 HM1
        generalize wx.alloc _ = w3 at *
        have hcv : c ≤ vc := by omega
        by_cases hv : vc = c
        · obtain rfl := hv
          rw [if_pos rfl, Nat.sub_self, show fl.length - vc = 0 from by omega] at HQ2
          go_region_with (go_at_call 24; refine (sums3 w3 _ _ _ _ _ _ _ _ fl HQ1.out HQ2.out (List.take_append_drop _ _)).mono ?_; rintro e w' ⟨rfl, rfl⟩)
          go_wp2
          go_ret
          exact ⟨ret_bool (by simp), ((HMX.out.alloc _).drew).below _ (Nat.le_refl _) (fun _ h => h.elim)⟩
        · rw [if_neg hv] at HQ2
          go_region_with (go_at_call 24; refine (sums3 w3 _ _ _ _ _ _ _ _ fl HQ1.out HQ2.out (List.take_append_drop _ _)).mono ?_; rintro e w' ⟨rfl, rfl⟩)
          go_wp2
          go_ret
          exact ⟨ret_bool (by simp), ((HMX.out.alloc _).drew).below _ (Nat.le_refl _) (fun _ h => h.elim)⟩
end Go.Proofs.Ytdhhpnfdnoaihaa

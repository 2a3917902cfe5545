/- How arguments read: rows of bools, and of a disk's deeds. -/
import Derived.Test.YtdhhpnfdnoaihaaV1
namespace Go.Proofs.Ytdhhpnfdnoaihaa
open Go.RowKit

theorem v_und4 : Try.prog.underlying 4 = some .bool := by kernel_rfl
theorem v_und36 : Try.prog.underlying 36 = some (.slice 4) := by kernel_rfl
theorem v_cells4 : Try.prog.cellsOf 4 = 1 := by kernel_rfl
theorem v_bytes4 : Try.prog.bytesOf 4 = 1 := by kernel_rfl
def EBool (cs : List Value) (b : Bool) : Prop := cs = [.bool b]
/-- a slice of bools -/
def VBools (w : World) (v : Value) (l : List Bool) : Prop := ∃ a cap, v = .slice a l.length cap ∧ l.length ≤ 140737488351232 ∧ Seen w 1 EBool a l
theorem view_bools {H : Type} {enc : TypeId × Value → H} {w : World} {n : Nat} {v : Value} {d : DataW H} {ps : List MemPlace} (h : Rdg enc w n 36 v.cells.toList = some (d, ps)) (hz : Small 36 d)
    (hv : ∃ a l c, v = .slice a l c) : ∃ l, VBools w v l := by
  obtain ⟨a, cap, xs, rfl, hl, hs⟩ := view_slice v_und36 v_cells4 (by omega) v_bytes4 EBool (fun n cs d ps h _ => by
    obtain ⟨b, h, _⟩ := DataW.trod_bool v_und4 h
    exact ⟨b, h⟩) h hz hv
  exact ⟨xs, a, cap, rfl, by omega, hs⟩

/-- a deed -/
structure Deed where
  k : Int
  i : Int
  n : Int
  d : List UInt8
deriving Inhabited
theorem v_und3 : Try.prog.underlying 3 = some (.int .i64) := by kernel_rfl
theorem v_und45 : Try.prog.underlying 45 = some (.slice 47) := by kernel_rfl
theorem v_und47 : Try.prog.underlying 47 = some (.struct (Try.prog.fieldsOf 47)) := by kernel_rfl
theorem v_f47 : (Try.prog.fieldsOf 47).toList.map (fun f => (f.type, f.offset)) = [(3, 0), (3, 1), (3, 2), (27, 3)] := by kernel_rfl
theorem v_cells47 : Try.prog.cellsOf 47 = 4 := by kernel_rfl
theorem v_bytes47 : Try.prog.bytesOf 47 = 48 := by kernel_rfl
theorem v_cells3 : Try.prog.cellsOf 3 = 1 := by kernel_rfl
def In64 (n : Int) : Prop := -9223372036854775808 ≤ n ∧ n ≤ 9223372036854775807
theorem in64 {n : Int} (h : (Lit.int .i64 n).wf = true) : In64 n := by
  simpa [Lit.wf, IntKind.min, IntKind.max, IntKind.signed, IntKind.bits, In64] using h
def EDeed (w : World) (cs : List Value) (o : Deed) : Prop := ∃ v, cs = [.int .i64 o.k, .int .i64 o.i, .int .i64 o.n, v] ∧ VBytes w v o.d ∧ In64 o.k ∧ In64 o.i ∧ In64 o.n
theorem field_of {fs : List Field} {xs : List (TypeId × Nat)} (h : fs.map (fun f => (f.type, f.offset)) = xs) (j : Nat) {t : TypeId} {o : Nat} (hj : xs[j]? = some (t, o)) : ∃ f, fs[j]? = some f ∧ f.type = t ∧ f.offset = o := by
  subst h
  rw [List.getElem?_map] at hj
  cases hf : fs[j]? with
  | none => rw [hf] at hj; cases hj
  | some f => rw [hf] at hj; simp at hj; exact ⟨f, rfl, hj.1, hj.2⟩
section
variable {H : Type} {enc : TypeId × Value → H} {w : World}
theorem trod_int64 {n : Nat} {cs : List Value} {x : DataW H × List MemPlace} (h : Rdg enc w n 3 cs = some x) : ∃ z, cs = [.int .i64 z] ∧ In64 z := by
  obtain ⟨z, rfl, _, hw⟩ := DataW.trod_int v_und3 h
  exact ⟨z, rfl, in64 hw⟩
set_option maxRecDepth 100000 in
theorem trod_deed (n : Nat) (cs : List Value) (d : DataW H) (ps : List MemPlace) (h : Rdg enc w n 47 cs = some (d, ps)) (hz : Small 47 d) : ∃ x, EDeed w cs x := by
  obtain ⟨xs, m, _, hx, hl, hsz, hf⟩ := DataW.trod_struct v_und47 h
  rw [v_cells47] at hl
  obtain ⟨f0, e0, t0, o0⟩ := field_of v_f47 0 rfl
  obtain ⟨f1, e1, t1, o1⟩ := field_of v_f47 1 rfl
  obtain ⟨f2, e2, t2, o2⟩ := field_of v_f47 2 rfl
  obtain ⟨f3, e3, t3, o3⟩ := field_of v_f47 3 rfl
  have hs4 : xs.length = 4 := by
    have := congrArg List.length v_f47
    rw [hsz]; simpa using this
  match xs, hs4, cs, hl with
  | [x0, x1, x2, x3], _, [c0, c1, c2, c3], _ =>
    have g0 := hf 0 f0 (by simpa using e0)
    have g1 := hf 1 f1 (by simpa using e1)
    have g2 := hf 2 f2 (by simpa using e2)
    have g3 := hf 3 f3 (by simpa using e3)
    rw [t0, o0, v_cells3] at g0
    rw [t1, o1, v_cells3] at g1
    rw [t2, o2, v_cells3] at g2
    rw [t3, o3, v_cells27] at g3
    simp at g0 g1 g2 g3
    obtain ⟨z0, h0, b0⟩ := trod_int64 g0
    obtain ⟨z1, h1, b1⟩ := trod_int64 g1
    obtain ⟨z2, h2, b2⟩ := trod_int64 g2
    have hd : d = .agg [x0.1, x1.1, x2.1, x3.1] := by
      simp at hx; exact hx.1
    have hsm : Small 27 x3.1 := by
      intro y hy
      refine hz y ?_
      subst hd
      simp only [DataW.weights, v_und47]
      refine DataW.weights_mem_each (j := 3) ?_ rfl y hy
      rw [List.getElem?_map, e3, Option.map_some, t3]
    obtain ⟨l, v, h3, hv⟩ := trod_bytes _ _ x3.1 x3.2 g3 hsm
    refine ⟨⟨z0, z1, z2, l⟩, v, ?_, hv, b0, b1, b2⟩
    simp at h0 h1 h2 h3
    simp [h0, h1, h2, h3]
end
/-- a script of deeds -/
def VDeeds (w : World) (v : Value) (l : List Deed) : Prop := ∃ a cap, v = .slice a l.length cap ∧ l.length * 48 ≤ 140737488351232 ∧ Seen w 4 (EDeed w) a l
theorem view_deeds {H : Type} {enc : TypeId × Value → H} {w : World} {n : Nat} {v : Value} {d : DataW H} {ps : List MemPlace} (h : Rdg enc w n 45 v.cells.toList = some (d, ps)) (hz : Small 45 d)
    (hv : ∃ a l c, v = .slice a l c) : ∃ l, VDeeds w v l := by
  obtain ⟨a, cap, xs, rfl, hl, hs⟩ := view_slice v_und45 v_cells47 (by omega) v_bytes47 (EDeed w) trod_deed h hz hv
  exact ⟨xs, a, cap, rfl, hl, hs⟩
/-- what a script says, in whatever later world -/
theorem VDeeds.at {w : World} {a : Option Addr} {ls : List Deed} (h : Seen w 4 (EDeed w) a ls) {w' : World} (hm : Mod None w w') {k : Nat} (hk : k < ls.length) :
    ∃ b o da dc, a = some ⟨b, o, none⟩ ∧ w'.cell? ⟨b, o + k * 4, none⟩ = some (.int .i64 ls[k].k) ∧ w'.cell? ⟨b, o + k * 4 + 1, none⟩ = some (.int .i64 ls[k].i) ∧ w'.cell? ⟨b, o + k * 4 + 2, none⟩ = some (.int .i64 ls[k].n) ∧
      w'.cell? ⟨b, o + k * 4 + 3, none⟩ = some (.slice da ls[k].d.length dc) ∧ Rd w' da ls[k].d ∧ (ls[k].d = [] ∨ ∃ b o, da = some ⟨b, o, none⟩ ∧ b < w.heap.size) ∧ ls[k].d.length ≤ 140737488351232 ∧ In64 ls[k].k ∧ In64 ls[k].i ∧ In64 ls[k].n := by
  rcases h with rfl | ⟨b, o, rfl, hx⟩
  · simp at hk
  · obtain ⟨cs, hl, ⟨v, hcs, ⟨da, dc, rfl, hlen, hrd⟩, b1, b2, b3⟩, hc⟩ := hx k hk
    have get : ∀ j v, cs[j]? = some v → j < 4 → w'.cell? ⟨b, o + k * 4 + j, none⟩ = some v := fun j v hj hlt => by
      have h1 := hc j hlt
      rw [hj, ← Nat.add_assoc] at h1
      rw [hm.cell (p := ⟨b, o + k * 4 + j, none⟩) (World.block_lt_of_cell? w _ h1) (fun h => h)]; exact h1
    refine ⟨b, o, da, dc, rfl, get 0 _ (by rw [hcs]; rfl) (by omega), get 1 _ (by rw [hcs]; rfl) (by omega), get 2 _ (by rw [hcs]; rfl) (by omega), get 3 _ (by rw [hcs]; rfl) (by omega), hm.rd hrd (fun _ _ h => h), ?_, hlen, b1, b2, b3⟩
    rcases hrd with h | ⟨b', o', rfl, hc'⟩
    · left; simpa using h
    · by_cases h0 : ls[k].d.map B = []
      · left; simpa using h0
      · right
        exact ⟨b', o', rfl, RdV.lt (.inr ⟨b', o', rfl, hc'⟩) h0⟩
theorem VBools.at {w : World} {a : Option Addr} {ls : List Bool} (h : Seen w 1 EBool a ls) {w' : World} (hm : Mod None w w') {k : Nat} (hk : k < ls.length) :
    ∃ b o, a = some ⟨b, o, none⟩ ∧ w'.cell? ⟨b, o + k, none⟩ = some (.bool ls[k]) := by
  rcases h with rfl | ⟨b, o, rfl, hx⟩
  · simp at hk
  · obtain ⟨cs, hl, he, hc⟩ := hx k hk
    have h1 := hc 0 (by omega)
    rw [he, Nat.mul_one] at h1
    have h2 : w.cell? ⟨b, o + k, none⟩ = some (.bool ls[k]) := h1
    refine ⟨b, o, rfl, ?_⟩
    rw [hm.cell (p := ⟨b, o + k, none⟩) (World.block_lt_of_cell? w _ h2) (fun h => h)]; exact h2
end Go.Proofs.Ytdhhpnfdnoaihaa

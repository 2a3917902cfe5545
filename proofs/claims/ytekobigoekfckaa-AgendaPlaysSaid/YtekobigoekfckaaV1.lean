/- How arguments read: rows of numbers, of entries, of deeds. -/
import Derived.Test.YtekobigoekfckaaR1
import Derived.Deep.Slices
import Derived.SizedLaws
import Derived.OpenShut
namespace Go.Proofs.Ytekobigoekfckaa
open Go.RowKit

def Small {H : Type} (t : TypeId) (d : DataW H) : Prop := ∀ x ∈ d.weights Try.prog t, x ≤ reachBytes
theorem small_of {H : Type} {ts : List TypeId} {ds : List (DataW H)} (h : (DataW.weightsEach Try.prog ts ds).all (· ≤ reachBytes) = true) {j : Nat} {t : TypeId} {d : DataW H} (ht : ts[j]? = some t) (hd : ds[j]? = some d) : Small t d := by
  intro x hx
  have := List.all_eq_true.1 h x (DataW.weights_mem_each ht hd x hx)
  simpa using this

theorem add_mk (b o k : Nat) : (⟨b, o, none⟩ : Addr).add k = ⟨b, o + k, none⟩ := by
  unfold Addr.add
  split
  · rename_i h; subst h; rfl
  · rfl
/-- a row of elements of 'size' cells, each of which E tells -/
def Seen {α : Type} (w : World) (size : Nat) (E : List Value → α → Prop) (a : Option Addr) (xs : List α) : Prop :=
  xs = [] ∨ ∃ b o, a = some ⟨b, o, none⟩ ∧ ∀ i (h : i < xs.length), ∃ cs : List Value, cs.length = size ∧ E cs xs[i] ∧ ∀ j, j < size → w.cell? ⟨b, o + (i * size + j), none⟩ = cs[j]?

section
variable {H : Type} {enc : TypeId × Value → H} {w : World}
noncomputable abbrev Rdg (enc : TypeId × Value → H) (w : World) (n : Nat) (t : TypeId) (cs : List Value) := DataW.trod enc Try.prog w 0 (fun _ => true) true n t cs

theorem weights_elem {t e : TypeId} {elems spare : List (DataW H)} (ht : Try.prog.underlying t = some (.slice e)) (hs : Small t (.slice elems spare)) : (elems.length + spare.length) * Try.prog.bytesOf e ≤ reachBytes ∧ ∀ d, d ∈ elems → Small e d := by
  constructor
  · exact hs _ (by simp [DataW.weights, ht])
  · intro d hd x hx
    refine hs x ?_
    simp only [DataW.weights, ht, List.mem_cons, List.mem_append]
    right; left
    clear hs
    induction elems with
    | nil => simp at hd
    | cons y ys ih =>
      simp only [DataW.weightsAll, List.mem_append]
      rcases List.mem_cons.1 hd with rfl | hd
      · exact .inl hx
      · exact .inr (ih hd)

theorem view_slice {α : Type} [Inhabited α] {t e : TypeId} {size bytes : Nat} (ht : Try.prog.underlying t = some (.slice e)) (hc : Try.prog.cellsOf e = size) (hsz : 0 < size) (hb : Try.prog.bytesOf e = bytes) (E : List Value → α → Prop)
    (hE : ∀ n cs d ps, Rdg enc w n e cs = some (d, ps) → Small e d → ∃ x, E cs x) {n : Nat} {v : Value} {d : DataW H} {ps : List MemPlace} (h : Rdg enc w n t v.cells.toList = some (d, ps)) (hz : Small t d)
    (hv : ∃ a l c, v = .slice a l c) :
    ∃ a cap xs, v = .slice a (List.length xs) cap ∧ List.length xs * bytes ≤ 140737488351232 ∧ Seen w size E a xs := by
  obtain ⟨a, len, cap, rfl⟩ := hv
  rcases Deep.open_slice ht h with ⟨hcs, _⟩ | ⟨a', l', c', m, n', D, Pl, hcs, _, hl, hm, hmm, hx, hel⟩
  · simp [Value.cells] at hcs
    obtain ⟨rfl, rfl, rfl⟩ := hcs
    exact ⟨none, 0, [], rfl, by simp, .inl rfl⟩
  · simp [Value.cells] at hcs
    obtain ⟨rfl, rfl, rfl⟩ := hcs
    simp only [if_true] at hmm
    subst hmm
    simp only [Prod.mk.injEq] at hx
    obtain ⟨rfl, _⟩ := hx
    obtain ⟨hw, hsm⟩ := weights_elem ht hz
    simp only [List.length_map, List.length_range, hb] at hw
    have hreach : reachBytes = 140737488351232 := by decide
    have hlen : len * bytes ≤ 140737488351232 := by
      rw [← hreach]
      exact Nat.le_trans (Nat.mul_le_mul_right _ (Nat.le_add_right _ _)) hw
    have hall : ∀ i, i < len → ∃ x, ∃ cs : List Value, cs.length = size ∧ E cs x ∧ ∀ j, j < size → w.cell? (a'.add (i * size + j)) = cs[j]? := by
      intro i hi
      obtain ⟨cs', h1, h2⟩ := hel i (by omega)
      rw [hc] at h1
      obtain ⟨_, hl1, hcell⟩ := World.cells?_some h1
      obtain ⟨x, hx⟩ := hE _ _ _ _ h2 (hsm _ (by simp; exact ⟨i, hi, rfl⟩))
      refine ⟨x, cs', hl1, hx, fun j hj => ?_⟩
      rw [← hcell j hj, Deep.add_add]
    obtain ⟨f, hf⟩ := Deep.choose_lt hall
    refine ⟨some a', m, (List.range len).map f, by simp, by simpa using hlen, ?_⟩
    by_cases h0 : len = 0
    · left; simp [h0]
    · right
      obtain ⟨b, o, sp⟩ := a'
      have hsp : sp = none := by
        obtain ⟨cs, hl, _, hcell⟩ := hf 0 (by omega)
        have := hcell 0 hsz
        rw [Nat.zero_mul, Nat.add_zero] at this
        have h1 : cs[0]? = some (cs[0]'(by omega)) := List.getElem?_eq_getElem (by omega)
        rw [h1] at this
        have := World.cell?_spot this
        simpa [Addr.add] using this
      subst hsp
      refine ⟨b, o, rfl, fun i hi => ?_⟩
      have hi' : i < len := by simpa using hi
      obtain ⟨cs, hl, hx, hcell⟩ := hf i hi'
      refine ⟨cs, hl, by simpa using hx, fun j hj => ?_⟩
      rw [← hcell j hj]
      rw [add_mk]
end

/-- what is seen stays, below B -/
theorem Below.seen {α : Type} {w w' : World} (hb : Below w.heap.size w w') {size : Nat} {E : List Value → α → Prop} {a : Option Addr} {xs : List α} (h : Seen w size E a xs) : Seen w' size E a xs := by
  rcases h with h | ⟨b, o, rfl, hx⟩
  · exact .inl h
  · refine .inr ⟨b, o, rfl, fun i hi => ?_⟩
    obtain ⟨cs, hl, he, hc⟩ := hx i hi
    refine ⟨cs, hl, he, fun j hj => ?_⟩
    have h1 := hc j hj
    rw [List.getElem?_eq_getElem (by omega)] at h1
    rw [hb.cell (World.block_lt_of_cell? w _ h1), hc j hj]

theorem v_cells3 : Try.prog.cellsOf 3 = 1 := by kernel_rfl
theorem v_cells2 : Try.prog.cellsOf 2 = 1 := by kernel_rfl
theorem v_bytes3 : Try.prog.bytesOf 3 = 8 := by kernel_rfl
theorem v_und23 : Try.prog.underlying 23 = some (.slice 3) := by kernel_rfl
theorem v_und29 : Try.prog.underlying 29 = some (.struct (Try.prog.fieldsOf 29)) := by kernel_rfl
theorem v_f29 : (Try.prog.fieldsOf 29).toList.map (fun f => (f.type, f.offset)) = [(3, 0), (2, 1)] := by kernel_rfl
theorem v_cells29 : Try.prog.cellsOf 29 = 2 := by kernel_rfl
theorem v_bytes29 : Try.prog.bytesOf 29 = 16 := by kernel_rfl
theorem v_und38 : Try.prog.underlying 38 = some (.slice 40) := by kernel_rfl
theorem v_und40 : Try.prog.underlying 40 = some (.struct (Try.prog.fieldsOf 40)) := by kernel_rfl
theorem v_f40 : (Try.prog.fieldsOf 40).toList.map (fun f => (f.type, f.offset)) = [(3, 0), (3, 1), (2, 2)] := by kernel_rfl
theorem v_cells40 : Try.prog.cellsOf 40 = 3 := by kernel_rfl
theorem v_bytes40 : Try.prog.bytesOf 40 = 24 := by kernel_rfl
theorem field_of {fs : List Field} {xs : List (TypeId × Nat)} (h : fs.map (fun f => (f.type, f.offset)) = xs) (j : Nat) {t : TypeId} {o : Nat} (hj : xs[j]? = some (t, o)) : ∃ f, fs[j]? = some f ∧ f.type = t ∧ f.offset = o := by
  subst h
  rw [List.getElem?_map] at hj
  cases hf : fs[j]? with
  | none => rw [hf] at hj; cases hj
  | some f => rw [hf] at hj; simp at hj; exact ⟨f, rfl, hj.1, hj.2⟩
def EInt (cs : List Value) (r : Int) : Prop := cs = [.int .i64 r] ∧ In64 r
def EEnt (cs : List Value) (e : Ent) : Prop := cs = [.int .i64 e.1, .int .i64 e.2] ∧ In64 e.1 ∧ In64 e.2
/-- a deed: kind, number, time -/
structure Deed where
  k : Int
  id : Int
  due : Int
deriving Inhabited
def EDeed (cs : List Value) (o : Deed) : Prop := cs = [.int .i64 o.k, .int .i64 o.id, .int .i64 o.due] ∧ In64 o.k ∧ In64 o.id ∧ In64 o.due
section
variable {H : Type} {enc : TypeId × Value → H} {w : World}
theorem trod_int64 {n : Nat} {t : TypeId} (ht : Try.prog.underlying t = some (.int .i64)) {cs : List Value} {x : DataW H × List MemPlace} (h : Rdg enc w n t cs = some x) : ∃ z, cs = [.int .i64 z] ∧ In64 z := by
  obtain ⟨z, rfl, _, hw⟩ := DataW.trod_int ht h
  exact ⟨z, rfl, in64 hw⟩
theorem trod_ent (n : Nat) (cs : List Value) (d : DataW H) (ps : List MemPlace) (h : Rdg enc w n 29 cs = some (d, ps)) (_ : Small 29 d) : ∃ x, EEnt cs x := by
  obtain ⟨xs, m, _, hx, hl, hsz, hf⟩ := DataW.trod_struct v_und29 h
  rw [v_cells29] at hl
  obtain ⟨f0, e0, t0, o0⟩ := field_of v_f29 0 rfl
  obtain ⟨f1, e1, t1, o1⟩ := field_of v_f29 1 rfl
  have hs2 : xs.length = 2 := by
    have := congrArg List.length v_f29
    rw [hsz]; simpa using this
  match xs, hs2, cs, hl with
  | [x0, x1], _, [c0, c1], _ =>
    have g0 := hf 0 f0 (by simpa using e0)
    have g1 := hf 1 f1 (by simpa using e1)
    rw [t0, o0, v_cells3] at g0
    rw [t1, o1, v_cells2] at g1
    simp at g0 g1
    obtain ⟨z0, h0, b0⟩ := trod_int64 v_und3 g0
    obtain ⟨z1, h1, b1⟩ := trod_int64 v_und2 g1
    refine ⟨(z0, z1), ?_, b0, b1⟩
    simp at h0 h1
    simp [h0, h1]
theorem trod_deed (n : Nat) (cs : List Value) (d : DataW H) (ps : List MemPlace) (h : Rdg enc w n 40 cs = some (d, ps)) (_ : Small 40 d) : ∃ x, EDeed cs x := by
  obtain ⟨xs, m, _, hx, hl, hsz, hf⟩ := DataW.trod_struct v_und40 h
  rw [v_cells40] at hl
  obtain ⟨f0, e0, t0, o0⟩ := field_of v_f40 0 rfl
  obtain ⟨f1, e1, t1, o1⟩ := field_of v_f40 1 rfl
  obtain ⟨f2, e2, t2, o2⟩ := field_of v_f40 2 rfl
  have hs3 : xs.length = 3 := by
    have := congrArg List.length v_f40
    rw [hsz]; simpa using this
  match xs, hs3, cs, hl with
  | [x0, x1, x2], _, [c0, c1, c2], _ =>
    have g0 := hf 0 f0 (by simpa using e0)
    have g1 := hf 1 f1 (by simpa using e1)
    have g2 := hf 2 f2 (by simpa using e2)
    rw [t0, o0, v_cells3] at g0
    rw [t1, o1, v_cells3] at g1
    rw [t2, o2, v_cells2] at g2
    simp at g0 g1 g2
    obtain ⟨z0, h0, b0⟩ := trod_int64 v_und3 g0
    obtain ⟨z1, h1, b1⟩ := trod_int64 v_und3 g1
    obtain ⟨z2, h2, b2⟩ := trod_int64 v_und2 g2
    refine ⟨⟨z0, z1, z2⟩, ?_, b0, b1, b2⟩
    simp at h0 h1 h2
    simp [h0, h1, h2]
end
/-- a row of numbers -/
def VInts (w : World) (v : Value) (l : List Int) : Prop := ∃ a cap, v = .slice a l.length cap ∧ l.length ≤ 140737488351232 ∧ Seen w 1 EInt a l
theorem view_ints {H : Type} {enc : TypeId × Value → H} {w : World} {n : Nat} {v : Value} {d : DataW H} {ps : List MemPlace} (h : Rdg enc w n 23 v.cells.toList = some (d, ps)) (hz : Small 23 d)
    (hv : ∃ a l c, v = .slice a l c) : ∃ l, VInts w v l := by
  obtain ⟨a, cap, xs, rfl, hl, hs⟩ := view_slice v_und23 v_cells3 (by omega) v_bytes3 EInt (fun n cs d ps h _ => by
    obtain ⟨z, h, b⟩ := trod_int64 v_und3 h
    exact ⟨z, h, b⟩) h hz hv
  exact ⟨xs, a, cap, rfl, by omega, hs⟩
theorem VInts.at {w : World} {a : Option Addr} {ls : List Int} (h : Seen w 1 EInt a ls) {w' : World} (hm : Mod None w w') {k : Nat} (hk : k < ls.length) :
    ∃ b o, a = some ⟨b, o, none⟩ ∧ w'.cell? ⟨b, o + k, none⟩ = some (.int .i64 ls[k]) ∧ In64 ls[k] := by
  rcases h with rfl | ⟨b, o, rfl, hx⟩
  · simp at hk
  · obtain ⟨cs, hl, ⟨he, hi⟩, hc⟩ := hx k hk
    have h1 := hc 0 (by omega)
    rw [he, Nat.mul_one] at h1
    have h2 : w.cell? ⟨b, o + k, none⟩ = some (.int .i64 ls[k]) := h1
    refine ⟨b, o, rfl, ?_, hi⟩
    rw [hm.cell (p := ⟨b, o + k, none⟩) (World.block_lt_of_cell? w _ h2) (fun h => h)]; exact h2
/-- a row of entries -/
def VEnts (w : World) (v : Value) (l : List Ent) : Prop := ∃ a cap, v = .slice a l.length cap ∧ l.length ≤ 140737488351232 ∧ RdV w a (entC l) ∧ ∀ e ∈ l, In64 e.1 ∧ In64 e.2
theorem seen_ents {w : World} {a : Option Addr} {l : List Ent} (h : Seen w 2 EEnt a l) : RdV w a (entC l) ∧ ∀ e ∈ l, In64 e.1 ∧ In64 e.2 := by
  rcases h with rfl | ⟨b, o, rfl, hx⟩
  · exact ⟨.inl rfl, fun e he => by simp at he⟩
  · constructor
    · refine .inr ⟨b, o, rfl, fun i hi => ?_⟩
      have hlen := entC_length l
      have hj : i / 2 < l.length := by omega
      obtain ⟨cs, _, ⟨he, _, _⟩, hc⟩ := hx (i / 2) hj
      have h1 := hc (i % 2) (by omega)
      rw [show i / 2 * 2 + i % 2 = i by omega] at h1
      obtain ⟨a1, a2⟩ := entC_at l (i / 2) hj
      rw [h1, he]
      rw [fn_at hj] at a1 a2
      rcases Nat.mod_two_eq_zero_or_one i with h | h
      · rw [h]
        rw [show i / 2 * 2 = i by omega] at a1
        rw [a1]; rfl
      · rw [h]
        rw [show i / 2 * 2 + 1 = i by omega] at a2
        rw [a2]; rfl
    · intro e he
      obtain ⟨i, hi, rfl⟩ := List.getElem_of_mem he
      obtain ⟨cs, _, ⟨_, h1, h2⟩, _⟩ := hx i hi
      exact ⟨h1, h2⟩
theorem view_ents {H : Type} {enc : TypeId × Value → H} {w : World} {n : Nat} {v : Value} {d : DataW H} {ps : List MemPlace} (h : Rdg enc w n 22 v.cells.toList = some (d, ps)) (hz : Small 22 d)
    (hv : ∃ a l c, v = .slice a l c) : ∃ l, VEnts w v l := by
  obtain ⟨a, cap, xs, rfl, hl, hs⟩ := view_slice v_und22 v_cells29 (by omega) v_bytes29 EEnt trod_ent h hz hv
  exact ⟨xs, a, cap, rfl, by omega, seen_ents hs⟩
/-- a script -/
def VDeeds (w : World) (v : Value) (l : List Deed) : Prop := ∃ a cap, v = .slice a l.length cap ∧ l.length ≤ 140737488351232 ∧ Seen w 3 EDeed a l
theorem view_deeds {H : Type} {enc : TypeId × Value → H} {w : World} {n : Nat} {v : Value} {d : DataW H} {ps : List MemPlace} (h : Rdg enc w n 38 v.cells.toList = some (d, ps)) (hz : Small 38 d)
    (hv : ∃ a l c, v = .slice a l c) : ∃ l, VDeeds w v l := by
  obtain ⟨a, cap, xs, rfl, hl, hs⟩ := view_slice v_und38 v_cells40 (by omega) v_bytes40 EDeed trod_deed h hz hv
  exact ⟨xs, a, cap, rfl, by omega, hs⟩
theorem VDeeds.at {w : World} {a : Option Addr} {ls : List Deed} (h : Seen w 3 EDeed a ls) {w' : World} (hm : Mod None w w') {k : Nat} (hk : k < ls.length) :
    ∃ b o, a = some ⟨b, o, none⟩ ∧ w'.cell? ⟨b, o + k * 3, none⟩ = some (.int .i64 ls[k].k) ∧ w'.cell? ⟨b, o + k * 3 + 1, none⟩ = some (.int .i64 ls[k].id) ∧ w'.cell? ⟨b, o + k * 3 + 2, none⟩ = some (.int .i64 ls[k].due) ∧ In64 ls[k].k ∧ In64 ls[k].id ∧ In64 ls[k].due := by
  rcases h with rfl | ⟨b, o, rfl, hx⟩
  · simp at hk
  · obtain ⟨cs, hl, ⟨hcs, b1, b2, b3⟩, hc⟩ := hx k hk
    have get : ∀ j v, cs[j]? = some v → j < 3 → w'.cell? ⟨b, o + k * 3 + j, none⟩ = some v := fun j v hj hlt => by
      have h1 := hc j hlt
      rw [hj, ← Nat.add_assoc] at h1
      rw [hm.cell (p := ⟨b, o + k * 3 + j, none⟩) (World.block_lt_of_cell? w _ h1) (fun h => h)]; exact h1
    exact ⟨b, o, rfl, get 0 _ (by rw [hcs]; rfl) (by omega), get 1 _ (by rw [hcs]; rfl) (by omega), get 2 _ (by rw [hcs]; rfl) (by omega), b1, b2, b3⟩
end Go.Proofs.Ytekobigoekfckaa

/- How arguments read: slices, strings, structs. -/
import Derived.Test.YtdhhpnfdnoaihaaL1
import Derived.Test.YtdhhpnfdnoaihaaProg
import Derived.Deep.Slices
import Derived.SizedLaws
import Derived.OpenShut
namespace Go.Proofs.Ytdhhpnfdnoaihaa
open Go.RowKit

def Small {H : Type} (t : TypeId) (d : DataW H) : Prop := ∀ x ∈ d.weights Try.prog t, x ≤ reachBytes
theorem small_of {H : Type} {ts : List TypeId} {ds : List (DataW H)} (h : (DataW.weightsEach Try.prog ts ds).all (· ≤ reachBytes) = true) {j : Nat} {t : TypeId} {d : DataW H} (ht : ts[j]? = some t) (hd : ds[j]? = some d) : Small t d := by
  intro x hx
  have := List.all_eq_true.1 h x (DataW.weights_mem_each ht hd x hx)
  simpa using this

theorem add_mk (b o k : Nat) : (⟨b, o, none⟩ : Addr).add k = ⟨b, o + k, none⟩ := by
  unfold Addr.add
  split
  · rename_i h; subst h; rfl
  · rfl
/-- a row of elements of 'size' cells, each of which E tells -/
def Seen {α : Type} (w : World) (size : Nat) (E : List Value → α → Prop) (a : Option Addr) (xs : List α) : Prop :=
  xs = [] ∨ ∃ b o, a = some ⟨b, o, none⟩ ∧ ∀ i (h : i < xs.length), ∃ cs : List Value, cs.length = size ∧ E cs xs[i] ∧ ∀ j, j < size → w.cell? ⟨b, o + (i * size + j), none⟩ = cs[j]?

section
variable {H : Type} {enc : TypeId × Value → H} {w : World}
noncomputable abbrev Rdg (enc : TypeId × Value → H) (w : World) (n : Nat) (t : TypeId) (cs : List Value) := DataW.trod enc Try.prog w 0 (fun _ => true) true n t cs

theorem weights_elem {t e : TypeId} {elems spare : List (DataW H)} (ht : Try.prog.underlying t = some (.slice e)) (hs : Small t (.slice elems spare)) : (elems.length + spare.length) * Try.prog.bytesOf e ≤ reachBytes ∧ ∀ d, d ∈ elems → Small e d := by
  constructor
  · exact hs _ (by simp [DataW.weights, ht])
  · intro d hd x hx
    refine hs x ?_
    simp only [DataW.weights, ht, List.mem_cons, List.mem_append]
    right; left
    clear hs
    induction elems with
    | nil => simp at hd
    | cons y ys ih =>
      simp only [DataW.weightsAll, List.mem_append]
      rcases List.mem_cons.1 hd with rfl | hd
      · exact .inl hx
      · exact .inr (ih hd)

theorem view_slice {α : Type} [Inhabited α] {t e : TypeId} {size bytes : Nat} (ht : Try.prog.underlying t = some (.slice e)) (hc : Try.prog.cellsOf e = size) (hsz : 0 < size) (hb : Try.prog.bytesOf e = bytes) (E : List Value → α → Prop)
    (hE : ∀ n cs d ps, Rdg enc w n e cs = some (d, ps) → Small e d → ∃ x, E cs x) {n : Nat} {v : Value} {d : DataW H} {ps : List MemPlace} (h : Rdg enc w n t v.cells.toList = some (d, ps)) (hz : Small t d)
    (hv : ∃ a l c, v = .slice a l c) :
    ∃ a cap xs, v = .slice a (List.length xs) cap ∧ List.length xs * bytes ≤ 140737488351232 ∧ Seen w size E a xs := by
  obtain ⟨a, len, cap, rfl⟩ := hv
  rcases Deep.open_slice ht h with ⟨hcs, _⟩ | ⟨a', l', c', m, n', D, Pl, hcs, _, hl, hm, hmm, hx, hel⟩
  · simp [Value.cells] at hcs
    obtain ⟨rfl, rfl, rfl⟩ := hcs
    exact ⟨none, 0, [], rfl, by simp, .inl rfl⟩
  · simp [Value.cells] at hcs
    obtain ⟨rfl, rfl, rfl⟩ := hcs
    simp only [if_true] at hmm
    subst hmm
    simp only [Prod.mk.injEq] at hx
    obtain ⟨rfl, _⟩ := hx
    obtain ⟨hw, hsm⟩ := weights_elem ht hz
    simp only [List.length_map, List.length_range, hb] at hw
    have hreach : reachBytes = 140737488351232 := by decide
    have hlen : len * bytes ≤ 140737488351232 := by
      rw [← hreach]
      exact Nat.le_trans (Nat.mul_le_mul_right _ (Nat.le_add_right _ _)) hw
    have hall : ∀ i, i < len → ∃ x, ∃ cs : List Value, cs.length = size ∧ E cs x ∧ ∀ j, j < size → w.cell? (a'.add (i * size + j)) = cs[j]? := by
      intro i hi
      obtain ⟨cs', h1, h2⟩ := hel i (by omega)
      rw [hc] at h1
      obtain ⟨_, hl1, hcell⟩ := World.cells?_some h1
      obtain ⟨x, hx⟩ := hE _ _ _ _ h2 (hsm _ (by simp; exact ⟨i, hi, rfl⟩))
      refine ⟨x, cs', hl1, hx, fun j hj => ?_⟩
      rw [← hcell j hj, Deep.add_add]
    obtain ⟨f, hf⟩ := Deep.choose_lt hall
    refine ⟨some a', m, (List.range len).map f, by simp, by simpa using hlen, ?_⟩
    by_cases h0 : len = 0
    · left; simp [h0]
    · right
      obtain ⟨b, o, sp⟩ := a'
      have hsp : sp = none := by
        obtain ⟨cs, hl, _, hcell⟩ := hf 0 (by omega)
        have := hcell 0 hsz
        rw [Nat.zero_mul, Nat.add_zero] at this
        have h1 : cs[0]? = some (cs[0]'(by omega)) := List.getElem?_eq_getElem (by omega)
        rw [h1] at this
        have := World.cell?_spot this
        simpa [Addr.add] using this
      subst hsp
      refine ⟨b, o, rfl, fun i hi => ?_⟩
      have hi' : i < len := by simpa using hi
      obtain ⟨cs, hl, hx, hcell⟩ := hf i hi'
      refine ⟨cs, hl, by simpa using hx, fun j hj => ?_⟩
      rw [← hcell j hj]
      rw [add_mk]
end

/-- what is seen stays, below B -/
theorem Below.seen {α : Type} {w w' : World} (hb : Below w.heap.size w w') {size : Nat} {E : List Value → α → Prop} {a : Option Addr} {xs : List α} (h : Seen w size E a xs) : Seen w' size E a xs := by
  rcases h with h | ⟨b, o, rfl, hx⟩
  · exact .inl h
  · refine .inr ⟨b, o, rfl, fun i hi => ?_⟩
    obtain ⟨cs, hl, he, hc⟩ := hx i hi
    refine ⟨cs, hl, he, fun j hj => ?_⟩
    have h1 := hc j hj
    rw [List.getElem?_eq_getElem (by omega)] at h1
    rw [hb.cell (World.block_lt_of_cell? w _ h1), hc j hj]

theorem v_und5 : Try.prog.underlying 5 = some (.int .u8) := by kernel_rfl
theorem v_und27 : Try.prog.underlying 27 = some (.slice 5) := by kernel_rfl
theorem v_und26 : Try.prog.underlying 26 = some (.slice 27) := by kernel_rfl
theorem v_cells5 : Try.prog.cellsOf 5 = 1 := by kernel_rfl
theorem v_cells27 : Try.prog.cellsOf 27 = 1 := by kernel_rfl
theorem v_bytes5 : Try.prog.bytesOf 5 = 1 := by kernel_rfl
theorem v_bytes27 : Try.prog.bytesOf 27 = 24 := by kernel_rfl
def EByte (cs : List Value) (b : UInt8) : Prop := cs = [B b]
section
variable {H : Type} {enc : TypeId × Value → H} {w : World}
theorem trod_byte (n : Nat) (cs : List Value) (d : DataW H) (ps : List MemPlace) (h : Rdg enc w n 5 cs = some (d, ps)) (_ : Small 5 d) : ∃ x, EByte cs x := by
  obtain ⟨z, rfl, _, hw⟩ := DataW.trod_int v_und5 h
  have hb : 0 ≤ z ∧ z ≤ 255 := by simpa [Lit.wf, IntKind.min, IntKind.max, IntKind.signed, IntKind.bits] using hw
  refine ⟨UInt8.ofNat z.toNat, ?_⟩
  unfold EByte B
  have : (UInt8.ofNat z.toNat).toNat = z.toNat := by rw [UInt8.toNat_ofNat']; omega
  rw [this, Int.toNat_of_nonneg hb.1]
end
theorem rd_of_seen {w : World} {a : Option Addr} {l : List UInt8} (h : Seen w 1 EByte a l) : Rd w a l := by
  rcases h with rfl | ⟨b, o, rfl, hx⟩
  · exact .inl rfl
  · refine .inr ⟨b, o, rfl, fun i hi => ?_⟩
    have hi' : i < l.length := by simpa using hi
    obtain ⟨cs, _, he, hc⟩ := hx i hi'
    have := hc 0 (by omega)
    rw [Nat.mul_one, Nat.add_zero] at this
    rw [this, he]
    simp [hi']
/-- a slice of bytes -/
def VBytes (w : World) (v : Value) (l : List UInt8) : Prop := ∃ a cap, v = .slice a l.length cap ∧ l.length ≤ 140737488351232 ∧ Rd w a l
def EBytes (w : World) (cs : List Value) (l : List UInt8) : Prop := ∃ v, cs = [v] ∧ VBytes w v l
theorem view_bytes {H : Type} {enc : TypeId × Value → H} {w : World} {n : Nat} {v : Value} {d : DataW H} {ps : List MemPlace} (h : Rdg enc w n 27 v.cells.toList = some (d, ps)) (hz : Small 27 d)
    (hv : ∃ a l c, v = .slice a l c) : ∃ l, VBytes w v l := by
  obtain ⟨a, cap, xs, rfl, hl, hs⟩ := view_slice v_und27 v_cells5 (by omega) v_bytes5 EByte trod_byte h hz hv
  exact ⟨xs, a, cap, rfl, by omega, rd_of_seen hs⟩
theorem trod_bytes {H : Type} {enc : TypeId × Value → H} {w : World} (n : Nat) (cs : List Value) (d : DataW H) (ps : List MemPlace) (h : Rdg enc w n 27 cs = some (d, ps)) (hz : Small 27 d) : ∃ x, EBytes w cs x := by
  rcases Deep.open_slice v_und27 h with ⟨rfl, _⟩ | ⟨a', l', c', m, n', D, Pl, rfl, _, hl, hm, hmm, hx, hel⟩
  · exact ⟨[], _, rfl, none, 0, rfl, by simp, .inl rfl⟩
  · obtain ⟨l, hl⟩ := view_bytes (v := .slice (some a') l' c') h hz ⟨_, _, _, rfl⟩
    exact ⟨l, _, rfl, hl⟩
def VBytess (w : World) (v : Value) (ls : List (List UInt8)) : Prop := ∃ a cap, v = .slice a ls.length cap ∧ ls.length * 24 ≤ 140737488351232 ∧ Seen w 1 (EBytes w) a ls
theorem view_bytess {H : Type} {enc : TypeId × Value → H} {w : World} {n : Nat} {v : Value} {d : DataW H} {ps : List MemPlace} (h : Rdg enc w n 26 v.cells.toList = some (d, ps)) (hz : Small 26 d)
    (hv : ∃ a l c, v = .slice a l c) : ∃ ls, VBytess w v ls := by
  obtain ⟨a, cap, xs, rfl, hl, hs⟩ := view_slice v_und26 v_cells27 (by omega) v_bytes27 (EBytes w) trod_bytes h hz hv
  exact ⟨xs, a, cap, rfl, by omega, hs⟩
end Go.Proofs.Ytdhhpnfdnoaihaa

/- The agenda's List: a clone, sorted. -/
import Derived.Lib.SliceRun
import Derived.Shelf.SlSortCmp.NoneTotal
import Derived.Test.YtekobigoekfckaaS1
import Derived.Test.YtekobigoekfckaaB12
namespace Go.Proofs.Ytekobigoekfckaa
open Go.RowKit Go.Sort

/-! the closure that compares -/
def GrownPost (v : Value) (w : World) (e : Ending) (w' : World) : Prop := e = .returned v ∧ ∃ os, w' = grow w os
set_option maxHeartbeats 800000 in
theorem before_grows (w : World) (x y : Ent) : Calls Try.prog 24 #[V x, V y] w (GrownPost (.bool (before x y)) w) := by
  obtain ⟨a, b⟩ := x
  obtain ⟨c, d⟩ := y
  have hm : ∀ (o1 o2 : Obj), ∃ os, ((w.alloc o1).alloc o2) = grow w os := fun o1 o2 => ⟨_, by rw [alloc_eq_grow, alloc_eq_grow, grow_grow]⟩
  have HM := hid hm
  clear hm
  by_cases h1 : b < d
  · have HB := hid (show before (a, b) (c, d) = true by rw [before_iff]; exact .inl h1)
    go_enter Try.func24, Try.ntmps24
    go_wp2
    go_ret
    exact ⟨rbool HB.out.symm, HM.out _ _⟩
  · by_cases h2 : b = d
    · subst h2
      by_cases h3 : a < c
      · have HB := hid (show before (a, b) (c, b) = true by rw [before_iff]; exact .inr ⟨rfl, h3⟩)
        go_enter Try.func24, Try.ntmps24
        go_wp2
        go_ret
        exact ⟨rbool HB.out.symm, HM.out _ _⟩
      · have HB := hid (show before (a, b) (c, b) = false by rw [Bool.eq_false_iff, ne_eq, before_iff]; simp; omega)
        go_enter Try.func24, Try.ntmps24
        go_wp2
        go_ret
        exact ⟨rbool HB.out.symm, HM.out _ _⟩
    · have HB := hid (show before (a, b) (c, d) = false by rw [Bool.eq_false_iff, ne_eq, before_iff]; simp; omega)
      go_enter Try.func24, Try.ntmps24
      go_wp2
      go_ret
      exact ⟨rbool HB.out.symm, HM.out _ _⟩
def cmpE (x y : Ent) : Int := if before x y = true then -1 else 1
def encE (x : Ent) : List Value := [.int .i64 x.1, .int .i64 x.2]
theorem closure_any (w : World) (x y : Ent) : Calls Try.prog 23 #[V x, V y] w (GrownPost (.int .i64 (cmpE x y)) w) := by
  have HB := hid (fun w => before_grows w x y)
  have HG := hid (fun (o1 o2 : Obj) (os : Array Obj) => show ∃ os', grow ((w.alloc o1).alloc o2) os = grow w os' from ⟨_, by rw [alloc_eq_grow, alloc_eq_grow, grow_grow, grow_grow]⟩)
  cases hb : before x y with
  | true =>
    have hc : cmpE x y = -1 := by simp [cmpE, hb]
    rw [hb] at HB
    rw [hc]
    clear hb hc
    obtain ⟨a, b⟩ := x
    obtain ⟨c, d⟩ := y
    go_enter Try.func23, Try.ntmps23
    go_wp2_with fail
    refine (HB.out _).mono ?_
    rintro e w2 ⟨rfl, os, rfl⟩
    go_wp2_with fail
    go_ret
    exact ⟨rfl, HG.out _ _ _⟩
  | false =>
    have hc : cmpE x y = 1 := by simp [cmpE, hb]
    rw [hb] at HB
    rw [hc]
    clear hb hc
    obtain ⟨a, b⟩ := x
    obtain ⟨c, d⟩ := y
    go_enter Try.func23, Try.ntmps23
    go_wp2_with fail
    refine (HB.out _).mono ?_
    rintro e w2 ⟨rfl, os, rfl⟩
    go_wp2_with fail
    go_ret
    exact ⟨rfl, HG.out _ _ _⟩
theorem ltE (x y : Ent) : ltOf cmpE x y = before x y := by
  unfold ltOf cmpE
  cases before x y <;> simp
theorem swoE : SWO (ltOf cmpE) where
  irrefl x := by rw [ltE, Bool.eq_false_iff, ne_eq, before_iff]; omega
  trans x y z h1 h2 := by rw [ltE, before_iff] at *; omega
  ntrans x y z h1 h2 := by rw [ltE, Bool.eq_false_iff, ne_eq, before_iff] at *; omega
theorem totE (x y : Ent) (h1 : ltOf cmpE x y = false) (h2 : ltOf cmpE y x = false) : x = y := by
  rw [ltE] at *
  exact le_anti h2 h1
/-! the row of cells -/
theorem flat_eq (l : List Ent) : flatK encE 2 l.toArray = (entC l).toArray := by
  apply Array.ext
  · rw [size_flatK, List.size_toArray, List.size_toArray, entC_length]
  · intro j h1 h2
    have hj : j < l.toArray.size * 2 := by rw [← size_flatK encE]; exact h1
    have hg := get_flatK encE 2 l.toArray j hj
    rw [getElem!_pos _ j h1] at hg
    rw [hg]
    have hi : j / 2 < l.length := by rw [List.size_toArray] at hj; omega
    have e1 : l.toArray[j / 2]! = fn l (j / 2) := by
      rw [getElem!_pos _ _ (by simpa using hi), fn_at hi]; simp
    rw [e1, List.getElem_toArray]
    obtain ⟨a, b⟩ := entC_at l (j / 2) hi
    rcases Nat.mod_two_eq_zero_or_one j with h | h
    · have e : j / 2 * 2 = j := by omega
      rw [e, List.getElem?_eq_getElem (by simpa using h2)] at a
      rw [h]; unfold encE
      simpa using a.symm
    · have e : j / 2 * 2 + 1 = j := by omega
      rw [e, List.getElem?_eq_getElem (by simpa using h2)] at b
      rw [h]; unfold encE
      simpa using b.symm
theorem holdsE {w : World} {g : Nat} {l : List Ent} {rest : List Value} (h : Blk w g 36 (entC l ++ rest)) : HoldsK encE 2 w g 0 l.toArray := by
  unfold HoldsK
  rw [flat_eq]
  intro j hj
  have hj' : j < (entC l).length := by simpa using hj
  refine ⟨?_, h.free _⟩
  rw [Nat.zero_add, h.cell, List.getElem?_append_left hj', getElem!_pos _ j hj]
  simp
theorem blk_map {w : World} {g : Nat} {t : TypeId} {cs : List Value} (h : Blk w g t cs) (f : Array Value → Array Value) : Blk (mapBlock w g f) g t (f cs.toArray).toList := by
  unfold Blk at *
  unfold mapBlock
  simp only [Array.getElem?_modify, if_true, h, Option.map_some, onCells]
theorem put_cells (xs ys rest : List Value) (h : xs.length = ys.length) : (putCells id 0 ys.toArray (xs ++ rest).toArray).toList = ys ++ rest := by
  apply List.ext_getElem?
  intro j
  unfold putCells
  by_cases hj : j < ys.length
  · rw [List.getElem?_append_left hj]
    have h2 : j < (xs ++ rest).length := by rw [List.length_append]; omega
    simp [hj]
    exact ⟨_, List.getElem?_eq_getElem h2⟩
  · have e : (xs ++ rest)[j]? = (ys ++ rest)[j]? := by rw [List.getElem?_append_right (by omega), List.getElem?_append_right (by omega), h]
    rw [← e]
    simp [hj]
theorem sorted_world {w : World} {g n : Nat} {l s : List Ent} {rest : List Value} {os : Array Obj} (h : Blk w g 36 (entC l ++ rest)) (hl : l.length = s.length) :
    Blk (sortWorldK encE 2 w g 0 n s.toArray os) g 36 (entC s ++ rest) ∧ Mod (fun k => k = g) w (sortWorldK encE 2 w g 0 n s.toArray os) := by
  unfold sortWorldK putRowK
  rw [flat_eq]
  have h1 : Blk (putRow id (Sort.ahead w n) g 0 (entC s).toArray) g 36 (entC s ++ rest) := by
    have := blk_map (w := Sort.ahead w n) h (putCells id 0 (entC s).toArray)
    rw [put_cells _ _ _ (by rw [entC_length, entC_length, hl])] at this
    exact this
  have hm : ∀ (w : World), Mod None w (grow w os) := fun w => ⟨rfl, rfl, rfl, by rw [size_grow]; omega, fun k hk _ => by
    show (w.heap ++ os)[k]? = _
    rw [Array.getElem?_append, if_pos hk]⟩
  refine ⟨(hm _).blk h1 (fun h => h), Mod.trans (b := putRow id (Sort.ahead w n) g 0 (entC s).toArray) ⟨rfl, rfl, rfl, ?_, ?_⟩ ((hm _).mono (fun _ _ h => h.elim))⟩
  · show w.heap.size ≤ (w.heap.modify g _).size
    simp
  · intro k _ hk
    show (w.heap.modify g _)[k]? = _
    rw [Array.getElem?_modify, if_neg (fun e => hk e.symm)]
/-! the sort -/
theorem agg36 (w : World) : (isAgg 36).run Try.prog w = .ok true w := by kernel_rfl
theorem size36 (w : World) : (Go.sizeOf 36).run Try.prog w = .ok 2 w := by kernel_rfl
def sortL (l : List Ent) : List Ent := l.mergeSort (fun x y => !(ltOf cmpE) y x)
theorem sortL_perm (l : List Ent) : (sortL l).Perm l := List.mergeSort_perm _ _
theorem sortL_sorted (l : List Ent) : (sortL l).Pairwise le := by
  have hle : ∀ x y : Ent, (!(ltOf cmpE) y x) = true ↔ le x y := fun x y => by rw [ltE]; unfold le; simp
  have h := List.pairwise_mergeSort (le := fun x y => !(ltOf cmpE) y x) (fun a b c h1 h2 => by rw [hle] at *; exact le_trans' h1 h2) (fun a b => by
    rw [Bool.or_eq_true, hle, hle]
    rw [le_iff, le_iff]; omega) l
  exact h.imp (fun h => (hle _ _).1 h)
theorem sortL_eq {l s : List Ent} (hp : l.Perm s) (hs : s.Pairwise le) : sortL l = s := sorted_perm (sortL_sorted l) hs ((sortL_perm l).trans hp)
def SortPost (g : Nat) (s : List Ent) (rest : List Value) (w : World) (e : Ending) (w' : World) : Prop := e = .returned (.tuple #[]) ∧ Blk w' g 36 (entC s ++ rest) ∧ Mod (fun k => k = g) w w'
theorem sort_any (w : World) (g cap : Nat) (l : List Ent) (rest : List Value) (hb : Blk w g 36 (entC l ++ rest)) (hl : l.length < 4611686018427387904) :
    Calls Try.prog 22 #[.slice (some ⟨g, 0, none⟩) l.length cap, .func (.func 23) #[] #[]] w (SortPost g (sortL l) rest w) := by
  have eg : ∀ args w, (callFunc 23 args).run Try.prog w = .ok (.enter 23 args) w := enters_of Try.func23 (by kernel_rfl) rfl
  have hcon := Go.Proofs.AnyQ.slices_SortFunc_total Go.Proofs.Try.sortEnt 2 agg36 size36 encE (fun _ => rfl) (fun x v hv => by simp [encE] at hv; rcases hv with rfl | rfl <;> rfl) cmpE swoE 23 #[] g 0 cap l.toArray w eg
    (fun m os dk _ x y => (closure_any _ x y).mono (fun e w' h => ⟨h.1, 0, h.2⟩)) (holdsE hb) hb.lt (by simpa using hl) totE
  rw [List.size_toArray] at hcon
  refine Calls.mono hcon ?_
  rintro e w' ⟨rfl, n, os, rfl⟩
  have := sorted_world (n := n) (s := sortL l) (os := os) hb (sortL_perm l).length_eq.symm
  exact ⟨rfl, this⟩
theorem sort_none (w : World) (a : Option Addr) (cap : Nat) : Calls Try.prog 22 #[.slice a 0 cap, .func (.func 23) #[] #[]] w fun e w' => e = .returned (.tuple #[]) ∧ w' = w :=
  Go.Proofs.AnyF.slices_SortFunc_none Go.Proofs.Try.sortEnt a cap _ w
end Go.Proofs.Ytekobigoekfckaa

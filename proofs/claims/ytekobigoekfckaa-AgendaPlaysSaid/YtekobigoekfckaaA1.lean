/- Mathematics of a heap. -/
import Derived.WalkKit
namespace Go.Proofs.Ytekobigoekfckaa

abbrev Ent := Int × Int
/-- the order: by time, then by number (an entry is its number and its time) -/
def before (x y : Ent) : Bool := decide (x.2 < y.2) || (x.2 == y.2 && decide (x.1 < y.1))
def le (x y : Ent) : Prop := before y x = false
theorem before_iff (x y : Ent) : before x y = true ↔ x.2 < y.2 ∨ (x.2 = y.2 ∧ x.1 < y.1) := by simp [before]
theorem le_iff (x y : Ent) : le x y ↔ x.2 < y.2 ∨ (x.2 = y.2 ∧ x.1 ≤ y.1) := by
  unfold le
  rw [← Bool.not_eq_true, before_iff]; omega
theorem le_of_before {x y : Ent} (h : before x y = true) : le x y := by rw [before_iff] at h; rw [le_iff]; omega
theorem le_of_not {x y : Ent} (h : ¬ before x y = true) : le y x := by unfold le; simpa using h
theorem le_trans' {x y z : Ent} (h : le x y) (k : le y z) : le x z := by rw [le_iff] at *; omega
theorem le_refl' (x : Ent) : le x x := by rw [le_iff]; omega
theorem le_anti {x y : Ent} (h : le x y) (k : le y x) : x = y := by
  rw [le_iff] at *
  exact Prod.ext (by omega) (by omega)

/-- two places change -/
def swp (f : Nat → Ent) (i j : Nat) : Nat → Ent := fun k => if k = i then f j else if k = j then f i else f k
theorem swp_i (f : Nat → Ent) (i j : Nat) : swp f i j i = f j := by simp [swp]
theorem swp_j (f : Nat → Ent) (i j : Nat) : swp f i j j = f i := by
  unfold swp
  by_cases h : j = i
  · rw [if_pos h, h]
  · rw [if_neg h, if_pos rfl]
theorem swp_o (f : Nat → Ent) {i j k : Nat} (h1 : k ≠ i) (h2 : k ≠ j) : swp f i j k = f k := by unfold swp; rw [if_neg h1, if_neg h2]
def Heap (f : Nat → Ent) (n : Nat) : Prop := ∀ k, 0 < k → k < n → le (f ((k - 1) / 2)) (f k)
/-- a heap but for the place j and its parent -/
structure UpOk (f : Nat → Ent) (n j : Nat) : Prop where
  rest : ∀ k, 0 < k → k < n → k ≠ j → le (f ((k - 1) / 2)) (f k)
  far : ∀ k, 0 < k → k < n → (k - 1) / 2 = j → 0 < j → le (f ((j - 1) / 2)) (f k)
/-- a heap but for the place i and its children -/
structure DownOk (f : Nat → Ent) (n i : Nat) : Prop where
  rest : ∀ k, 0 < k → k < n → (k - 1) / 2 ≠ i → le (f ((k - 1) / 2)) (f k)
  far : ∀ k, 0 < k → k < n → (k - 1) / 2 = i → 0 < i → le (f ((i - 1) / 2)) (f k)
/-- a heap but for what stands at i -/
structure FixOk (f : Nat → Ent) (n i : Nat) : Prop where
  rest : ∀ k, 0 < k → k < n → k ≠ i → (k - 1) / 2 ≠ i → le (f ((k - 1) / 2)) (f k)
  far : ∀ k, 0 < k → k < n → (k - 1) / 2 = i → 0 < i → le (f ((i - 1) / 2)) (f k)
theorem UpOk.done {f : Nat → Ent} {n j : Nat} (h : UpOk f n j) (hs : (j - 1) / 2 = j ∨ ¬ before (f j) (f ((j - 1) / 2)) = true) : Heap f n := fun k hk hn => by
  by_cases e : k = j
  · subst e
    rcases hs with hs | hs
    · omega
    · exact le_of_not hs
  · exact h.rest k hk hn e
theorem UpOk.step {f : Nat → Ent} {n j : Nat} (h : UpOk f n j) (hj : j < n) (hne : (j - 1) / 2 ≠ j) (hb : before (f j) (f ((j - 1) / 2)) = true) : UpOk (swp f ((j - 1) / 2) j) n ((j - 1) / 2) := by
  generalize hi : (j - 1) / 2 = i at hne hb ⊢
  have h0 : 0 < j := by omega
  have hij : i < j := by omega
  constructor
  · intro k hk hn hki
    by_cases e : k = j
    · subst e
      rw [hi, swp_i, swp_j]; exact le_of_before hb
    · rw [swp_o f hki e]
      by_cases p1 : (k - 1) / 2 = j
      · rw [p1, swp_j]
        have := h.far k hk hn p1 h0
        rw [hi] at this; exact this
      · by_cases p2 : (k - 1) / 2 = i
        · rw [p2, swp_i]
          have := h.rest k hk hn e
          rw [p2] at this
          exact le_trans' (le_of_before hb) this
        · rw [swp_o f p2 p1]; exact h.rest k hk hn e
  · intro k hk hn hp hi0
    have hpp : le (f ((i - 1) / 2)) (f i) := h.rest i hi0 (by omega) (by omega)
    rw [swp_o f (show (i - 1) / 2 ≠ i by omega) (show (i - 1) / 2 ≠ j by omega)]
    by_cases e : k = j
    · subst e
      rw [swp_j]; exact hpp
    · rw [swp_o f (show k ≠ i by omega) e]
      have := h.rest k hk hn e
      rw [hp] at this
      exact le_trans' hpp this
/-- the smaller child, if there is one -/
def child (f : Nat → Ent) (n i : Nat) : Nat := if 2 * i + 2 < n ∧ before (f (2 * i + 2)) (f (2 * i + 1)) = true then 2 * i + 2 else 2 * i + 1
theorem child_or (f : Nat → Ent) (n i : Nat) : child f n i = 2 * i + 1 ∨ child f n i = 2 * i + 2 := by unfold child; split <;> simp
theorem child_lt {f : Nat → Ent} {n i : Nat} (h : 2 * i + 1 < n) : child f n i < n := by unfold child; split <;> omega
theorem child_least {f : Nat → Ent} {n i k : Nat} (h0 : 0 < k) (hn : k < n) (hk : (k - 1) / 2 = i) : le (f (child f n i)) (f k) := by
  have hc : k = 2 * i + 1 ∨ k = 2 * i + 2 := by omega
  unfold child
  split
  · rename_i hh
    rcases hc with rfl | rfl
    · exact le_of_before hh.2
    · exact le_refl' _
  · rename_i hh
    rcases hc with rfl | rfl
    · exact le_refl' _
    · exact le_of_not (fun hb => hh ⟨hn, hb⟩)
/-- the place stays: its children are not ahead -/
theorem FixOk.stay {f : Nat → Ent} {n i : Nat} (h : FixOk f n i) (hs : n ≤ 2 * i + 1 ∨ ¬ before (f (child f n i)) (f i) = true) : UpOk f n i where
  rest := fun k hk hn hki => by
    by_cases p : (k - 1) / 2 = i
    · rcases hs with hs | hs
      · omega
      · rw [p]; exact le_trans' (le_of_not hs) (child_least hk hn p)
    · exact h.rest k hk hn hki p
  far := h.far
theorem DownOk.done {f : Nat → Ent} {n i : Nat} (h : DownOk f n i) (hs : n ≤ 2 * i + 1 ∨ ¬ before (f (child f n i)) (f i) = true) : Heap f n := fun k hk hn => by
  by_cases p : (k - 1) / 2 = i
  · rcases hs with hs | hs
    · omega
    · rw [p]; exact le_trans' (le_of_not hs) (child_least hk hn p)
  · exact h.rest k hk hn p
theorem FixOk.step {f : Nat → Ent} {n i : Nat} (h : FixOk f n i) (hc : 2 * i + 1 < n) (hb : before (f (child f n i)) (f i) = true) : DownOk (swp f i (child f n i)) n (child f n i) := by
  have hlt := child_lt (f := f) hc
  have hor := child_or f n i
  have hle := fun k (h0 : 0 < k) (hn : k < n) (hk : (k - 1) / 2 = i) => child_least (f := f) h0 hn hk
  generalize child f n i = j at *
  constructor
  · intro k hk hn hp
    by_cases e : k = j
    · subst e
      rw [show (k - 1) / 2 = i by omega, swp_i, swp_j]; exact le_of_before hb
    · by_cases e2 : k = i
      · subst e2
        rw [swp_i, swp_o f (show (k - 1) / 2 ≠ k by omega) hp]
        exact h.far j (by omega) hlt (by omega) hk
      · rw [swp_o f e2 e]
        by_cases p2 : (k - 1) / 2 = i
        · rw [p2, swp_i]; exact hle k hk hn p2
        · rw [swp_o f p2 hp]; exact h.rest k hk hn e2 p2
  · intro k hk hn hp _
    rw [show (j - 1) / 2 = i by omega, swp_i, swp_o f (show k ≠ i by omega) (show k ≠ j by omega)]
    have := h.rest k hk hn (by omega) (by omega)
    rw [hp] at this; exact this
theorem DownOk.fix {f : Nat → Ent} {n i : Nat} (h : DownOk f n i) : FixOk f n i := ⟨fun k hk hn _ p => h.rest k hk hn p, h.far⟩
theorem Heap.fix {f g : Nat → Ent} {n i : Nat} (h : Heap f n) (hg : ∀ k, k ≠ i → g k = f k) : FixOk g n i where
  rest := fun k hk hn hki hp => by rw [hg _ hp, hg _ hki]; exact h k hk hn
  far := fun k hk hn hp hi => by
    rw [hg _ (show (i - 1) / 2 ≠ i by omega), hg _ (show k ≠ i by omega)]
    have h1 := h k hk hn
    rw [hp] at h1
    exact le_trans' (h i hi (by omega)) h1
theorem Heap.push {f : Nat → Ent} {n : Nat} (h : Heap f n) (g : Nat → Ent) (hg : ∀ k, k < n → g k = f k) : UpOk g (n + 1) n where
  rest := fun k hk hn hki => by rw [hg _ (by omega), hg _ (by omega)]; exact h k hk (by omega)
  far := fun k hk hn hp h0 => by omega
theorem Heap.least {f : Nat → Ent} {n : Nat} (h : Heap f n) : ∀ k, k < n → le (f 0) (f k) := fun k => by
  induction k using Nat.strongRecOn with
  | _ k ih =>
    intro hk
    by_cases h0 : k = 0
    · subst h0; exact le_refl' _
    · exact le_trans' (ih ((k - 1) / 2) (by omega) (by omega)) (h k (by omega) hk)
theorem Heap.mono {f : Nat → Ent} {n m : Nat} (h : Heap f n) (hm : m ≤ n) : Heap f m := fun k hk hn => h k hk (by omega)
end Go.Proofs.Ytekobigoekfckaa

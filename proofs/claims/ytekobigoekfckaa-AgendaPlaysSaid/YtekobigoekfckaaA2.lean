/- Lists as heaps; where each entry stands. -/
import Derived.Test.YtekobigoekfckaaA1
namespace Go.Proofs.Ytekobigoekfckaa

def fn (l : List Ent) : Nat → Ent := fun k => l.getD k (0, 0)
theorem fn_at {l : List Ent} {k : Nat} (h : k < l.length) : fn l k = l[k] := by
  unfold fn; rw [List.getD_eq_getElem?_getD, List.getElem?_eq_getElem h]; rfl
def swl (l : List Ent) (i j : Nat) : List Ent := (l.set i (fn l j)).set j (fn l i)
theorem swl_len (l : List Ent) (i j : Nat) : (swl l i j).length = l.length := by simp [swl]
theorem fn_set (l : List Ent) (i k : Nat) (x : Ent) (hi : i < l.length) : fn (l.set i x) k = if k = i then x else fn l k := by
  unfold fn
  rw [List.getD_eq_getElem?_getD, List.getD_eq_getElem?_getD, List.getElem?_set]
  by_cases h : i = k
  · subst h; simp [hi]
  · rw [if_neg h, if_neg (fun e => h e.symm)]
theorem fn_swl (l : List Ent) (i j : Nat) (hi : i < l.length) (hj : j < l.length) : fn (swl l i j) = swp (fn l) i j := by
  funext k
  unfold swl swp
  rw [fn_set _ _ _ _ (by rw [List.length_set]; exact hj), fn_set _ _ _ _ hi]
  by_cases h1 : k = i
  · by_cases h2 : k = j
    · rw [if_pos h2, if_pos h1]; rw [← h1, ← h2]
    · rw [if_neg h2, if_pos h1, if_pos h1]
  · by_cases h2 : k = j
    · rw [if_pos h2, if_neg h1, if_pos h2]
    · rw [if_neg h2, if_neg h1, if_neg h1, if_neg h2]
theorem swl_perm (l : List Ent) (i j : Nat) (hi : i < l.length) (hj : j < l.length) : (swl l i j).Perm l := by
  unfold swl
  rw [fn_at hi, fn_at hj]
  exact List.set_set_perm hi hj
/-- the map tells where each number's entry stands -/
structure Pos (l : List Ent) (m : Int → Option Nat) : Prop where
  at' : ∀ k, k < l.length → m (fn l k).1 = some k
  back : ∀ id k, m id = some k → k < l.length ∧ (fn l k).1 = id
def upd (m : Int → Option Nat) (id : Int) (x : Option Nat) : Int → Option Nat := fun y => if y = id then x else m y
theorem Pos.inj {l : List Ent} {m : Int → Option Nat} (h : Pos l m) {i j : Nat} (hi : i < l.length) (hj : j < l.length) (e : (fn l i).1 = (fn l j).1) : i = j := by
  have h1 := h.at' i hi
  rw [e, h.at' j hj] at h1
  injection h1 with h1; exact h1.symm
theorem Pos.swap {l : List Ent} {m : Int → Option Nat} (h : Pos l m) {i j : Nat} (hi : i < l.length) (hj : j < l.length) : Pos (swl l i j) (upd (upd m (fn l j).1 (some i)) (fn l i).1 (some j)) := by
  constructor
  · intro k hk
    rw [swl_len] at hk
    rw [fn_swl l i j hi hj]
    unfold upd
    by_cases h2 : k = j
    · subst h2
      rw [swp_j, if_pos rfl]
    · by_cases h1 : k = i
      · subst h1
        rw [swp_i]
        rw [if_neg (fun e => h2 (h.inj hi hj e.symm)), if_pos rfl]
      · rw [swp_o _ h1 h2, if_neg (fun e => h1 (h.inj hk hi e)), if_neg (fun e => h2 (h.inj hk hj e))]
        exact h.at' k hk
  · intro id k hm
    unfold upd at hm
    rw [swl_len, fn_swl l i j hi hj]
    split at hm
    · rename_i e
      injection hm with hm
      subst hm
      exact ⟨hj, by rw [swp_j]; exact e.symm⟩
    · rename_i e
      split at hm
      · rename_i e2
        injection hm with hm
        subst hm
        exact ⟨hi, by rw [swp_i]; exact e2.symm⟩
      · rename_i e2
        obtain ⟨h1, h2⟩ := h.back id k hm
        refine ⟨h1, ?_⟩
        rw [swp_o _ (fun x => e (by rw [← h2, x])) (fun x => e2 (by rw [← h2, x]))]; exact h2
end Go.Proofs.Ytekobigoekfckaa

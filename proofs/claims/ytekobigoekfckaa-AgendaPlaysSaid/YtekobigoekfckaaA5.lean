/- A number's entry, put another time, or taken out. -/
import Derived.Test.YtekobigoekfckaaA4
namespace Go.Proofs.Ytekobigoekfckaa

theorem dropL_none {l : List Ent} {id : Int} (h : ∀ y ∈ l, y.1 ≠ id) : dropL l id = l := by
  unfold dropL
  rw [List.filter_eq_self]
  intro y hy; simpa using h y hy
theorem Pos.unlike {l : List Ent} {m : Int → Option Nat} (h : Pos l m) : l.Pairwise (fun x y => x.1 ≠ y.1) := by
  rw [List.pairwise_iff_getElem]
  intro i j hi hj hij e
  have := h.inj hi hj (by rw [fn_at hi, fn_at hj]; exact e)
  omega
theorem dropL_at : ∀ {l : List Ent} (_ : l.Pairwise (fun x y => x.1 ≠ y.1)) {i : Nat} (_ : i < l.length), dropL l (fn l i).1 = l.eraseIdx i
  | [], _, i, hi => by simp at hi
  | x :: l, h, 0, _ => by
    have : fn (x :: l) 0 = x := rfl
    rw [this]
    unfold dropL
    rw [List.filter_cons_of_neg (by simp), List.eraseIdx_zero, List.tail_cons]
    exact dropL_none (fun y hy => (List.rel_of_pairwise_cons h hy).symm)
  | x :: l, h, i + 1, hi => by
    have hi' : i < l.length := by simpa using hi
    have e : fn (x :: l) (i + 1) = fn l i := by simp [fn]
    have hx : x.1 ≠ (fn l i).1 := List.rel_of_pairwise_cons h (by rw [fn_at hi']; exact List.getElem_mem hi')
    have := dropL_at h.of_cons hi'
    rw [e]
    unfold dropL at *
    rw [List.filter_cons_of_pos (by simpa using hx), this, List.eraseIdx_cons_succ]
theorem set_perm {l : List Ent} {i : Nat} (hi : i < l.length) (x : Ent) : (l.set i x).Perm (x :: l.eraseIdx i) := by
  rw [List.set_eq_take_append_cons_drop, if_pos hi, List.eraseIdx_eq_take_drop_succ]
  exact List.perm_middle
theorem erase_perm {l : List Ent} {i : Nat} (hi : i < l.length) : (fn l i :: l.eraseIdx i).Perm l := by
  have h := set_perm hi (fn l i)
  rw [fn_at hi, List.set_getElem_self] at h
  rw [fn_at hi]; exact h.symm
theorem drop_of_erase {l l' : List Ent} {m : Int → Option Nat} (h : Pos l m) {i : Nat} (hi : i < l.length) (hp : (fn l i :: l').Perm l) : l'.Perm (dropL l (fn l i).1) := by
  rw [dropL_at h.unlike hi]
  exact (List.perm_cons _).1 (hp.trans (erase_perm hi).symm)
theorem set_drop {l : List Ent} {m : Int → Option Nat} (h : Pos l m) {i : Nat} (hi : i < l.length) (d : Int) : (l.set i ((fn l i).1, d)).Perm (((fn l i).1, d) :: dropL l (fn l i).1) := by
  rw [dropL_at h.unlike hi]
  exact set_perm hi _
/-- is there an entry of this number? -/
def there (s : List Ent) (id : Int) : Bool := s.any (fun e => e.1 == id)
theorem there_perm {l s : List Ent} (h : l.Perm s) (id : Int) : there l id = there s id := by
  unfold there; exact h.any_eq
theorem Pos.there {l : List Ent} {m : Int → Option Nat} (h : Pos l m) (id : Int) : (m id).isSome = there l id := by
  cases hm : m id with
  | none =>
    symm; rw [Option.isSome_none]
    unfold Ytekobigoekfckaa.there
    rw [List.any_eq_false]
    intro y hy hx
    obtain ⟨i, hi, rfl⟩ := List.getElem_of_mem hy
    have := h.at' i hi
    rw [fn_at hi] at this
    have e : l[i].1 = id := by simpa using hx
    rw [e, hm] at this; cases this
  | some k =>
    obtain ⟨h1, h2⟩ := h.back _ _ hm
    symm; rw [Option.isSome_some]
    unfold Ytekobigoekfckaa.there
    rw [List.any_eq_true]
    exact ⟨l[k], List.getElem_mem h1, by rw [fn_at h1] at h2; simpa using h2⟩
theorem there_false {s : List Ent} {id : Int} (h : there s id = false) : ∀ y ∈ s, y.1 ≠ id := by
  unfold there at h
  rw [List.any_eq_false] at h
  intro y hy; simpa using h y hy
/-- a list without a number's entry is shorter just if there was one -/
theorem there_len (s : List Ent) (id : Int) : there s id = decide ((dropL s id).length < s.length) := by
  induction s with
  | nil => rfl
  | cons x s ih =>
    unfold there dropL at *
    have hle := List.length_filter_le (fun e : Ent => e.1 != id) s
    by_cases hx : x.1 = id
    · rw [List.any_cons, List.filter_cons_of_neg (by simpa using hx), List.length_cons]
      rw [show (x.1 == id) = true by simpa using hx, Bool.true_or]
      symm; rw [decide_eq_true_eq]; omega
    · rw [List.any_cons, List.filter_cons_of_pos (by simpa using hx), List.length_cons, List.length_cons, ih, show (x.1 == id) = false by simpa using hx, Bool.false_or, decide_eq_decide]
      omega
end Go.Proofs.Ytekobigoekfckaa

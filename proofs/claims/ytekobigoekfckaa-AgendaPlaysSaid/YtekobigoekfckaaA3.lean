/- What is put in and taken out of a heap. -/
import Derived.Test.YtekobigoekfckaaA2
namespace Go.Proofs.Ytekobigoekfckaa

theorem Pos.push {l : List Ent} {m : Int → Option Nat} (h : Pos l m) (e : Ent) (hn : m e.1 = none) : Pos (l ++ [e]) (upd m e.1 (some l.length)) := by
  have h1 : ∀ k, k < l.length → fn (l ++ [e]) k = fn l k := fun k hk => by
    rw [fn_at hk, fn_at (by rw [List.length_append]; omega), List.getElem_append_left hk]
  have h2 : fn (l ++ [e]) l.length = e := by rw [fn_at (by simp)]; simp
  constructor
  · intro k hk
    rw [List.length_append, List.length_singleton] at hk
    unfold upd
    by_cases hlt : k < l.length
    · rw [h1 k hlt]
      by_cases he : (fn l k).1 = e.1
      · have := h.at' k hlt
        rw [he, hn] at this; cases this
      · rw [if_neg he]; exact h.at' k hlt
    · obtain rfl : k = l.length := by omega
      rw [h2, if_pos rfl]
  · intro id k hm
    unfold upd at hm
    rw [List.length_append, List.length_singleton]
    split at hm
    · rename_i he
      injection hm with hm
      subst hm
      exact ⟨by omega, by rw [h2]; exact he.symm⟩
    · obtain ⟨a, b⟩ := h.back id k hm
      exact ⟨by omega, by rw [h1 k a]; exact b⟩
theorem Pos.pop {l : List Ent} {m : Int → Option Nat} (h : Pos l m) {n : Nat} (hl : l.length = n + 1) : Pos (l.take n) (upd m (fn l n).1 none) := by
  have h1 : ∀ k, k < n → fn (l.take n) k = fn l k := fun k hk => by
    rw [fn_at (by rw [List.length_take]; omega), fn_at (by omega), List.getElem_take]
  have hlt : (l.take n).length = n := by rw [List.length_take]; omega
  constructor
  · intro k hk
    rw [hlt] at hk
    rw [h1 k hk]
    unfold upd
    rw [if_neg (fun e => by have := h.inj (by omega) (by omega) e; omega)]
    exact h.at' k (by omega)
  · intro id k hm
    unfold upd at hm
    split at hm
    · cases hm
    · rename_i he
      obtain ⟨a, b⟩ := h.back id k hm
      have : k ≠ n := fun e => he (by rw [← b, e])
      exact ⟨by rw [hlt]; omega, by rw [h1 k (by omega)]; exact b⟩
theorem Pos.due {l : List Ent} {m : Int → Option Nat} (h : Pos l m) {i : Nat} (hi : i < l.length) (d : Int) : Pos (l.set i ((fn l i).1, d)) m := by
  have h1 : ∀ k, (fn (l.set i ((fn l i).1, d)) k).1 = (fn l k).1 := fun k => by
    rw [fn_set _ _ _ _ hi]
    by_cases e : k = i
    · subst e; rw [if_pos rfl]
    · rw [if_neg e]
  exact ⟨fun k hk => by rw [h1]; exact h.at' k (by simpa using hk), fun id k hm => by rw [h1]; simpa using h.back id k hm⟩
end Go.Proofs.Ytekobigoekfckaa

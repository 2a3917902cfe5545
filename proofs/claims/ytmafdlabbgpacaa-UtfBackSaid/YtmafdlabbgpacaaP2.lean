/- Where a text isn't runes: its beginnings. -/
import Derived.Test.YtmafdlabbgpacaaC3
namespace Go.Proofs.Ytmafdlabbgpacaa

theorem next_nat (l : List UInt8) (k : Nat) : nextL l k = readL (l.drop k) := by
  unfold nextL; rw [if_neg (by omega), Int.toNat_natCast]
theorem read_cons (c : UInt8) (m : List UInt8) : readL (c :: m) = if c.toNat < 128 then ((c.toNat : Int), 1) else if (headL c).2 = 0 then (0, 0) else tailL (headL c).1 (headL c).2 m := rfl
theorem head_two {c : UInt8} (h1 : ¬ c.toNat < 128) (h0 : (headL c).2 ≠ 0) : 2 ≤ (headL c).2 := by
  unfold headL at *
  rw [if_neg h1] at *
  split
  · rename_i h; rw [if_pos h] at h0; exact absurd rfl h0
  · split
    · simp
    · split
      · simp
      · split
        · simp
        · rename_i a b c d; rw [if_neg a, if_neg b, if_neg c, if_neg d] at h0; exact absurd rfl h0
theorem tail_take {r : Int} {n q : Nat} {m : List UInt8} (h : (tailL r n m).2 ≠ 0) (hq : n ≤ q + 1) : tailL r n (m.take q) = tailL r n m := by
  have hl : ¬ m.length < n - 1 := fun hl => by unfold tailL at h; rw [if_pos hl] at h; exact h rfl
  unfold tailL
  rw [if_neg hl, if_neg (by rw [List.length_take]; omega), List.take_take, Nat.min_eq_left (by omega)]
theorem next_take {l : List UInt8} {k m : Nat} (h0 : (nextL l k).2 ≠ 0) (hm : k + (nextL l k).2.toNat ≤ m) : nextL (l.take m) k = nextL l k := by
  rw [next_nat] at h0 hm ⊢
  rw [next_nat, List.drop_take]
  generalize l.drop k = r at *
  cases r with
  | nil => rw [List.take_nil]
  | cons c r =>
    rw [read_cons] at h0 hm
    have hq : 1 ≤ m - k := by
      have hp := next_n (c :: r) 0
      have e : nextL (c :: r) 0 = readL (c :: r) := rfl
      rw [e, read_cons] at hp
      omega
    obtain ⟨q, hq⟩ : ∃ q, m - k = q + 1 := ⟨m - k - 1, by omega⟩
    rw [hq, List.take_succ_cons, read_cons, read_cons]
    by_cases h1 : c.toNat < 128
    · rw [if_pos h1, if_pos h1]
    · rw [if_neg h1] at h0 hm
      rw [if_neg h1, if_neg h1]
      by_cases h2 : (headL c).2 = 0
      · rw [if_pos h2, if_pos h2]
      · rw [if_neg h2] at h0 hm
        rw [if_neg h2, if_neg h2]
        refine tail_take h0 ?_
        have hn : (tailL (headL c).1 (headL c).2 r).2 = (headL c).2 := by
          unfold tailL at h0 ⊢
          split at h0
          · exact absurd rfl h0
          · rename_i a
            rw [if_neg a]
            split at h0
            · rename_i b
              rw [if_pos b]
              split at h0
              · rename_i d; rw [if_pos d]
              · exact absurd rfl h0
            · exact absurd rfl h0
        rw [hn] at hm
        omega
theorem next_short {l : List UInt8} {k : Nat} (h0 : (nextL l k).2 = 0) : (nextL (l.take (k + 1)) k).2 = 0 := by
  rw [next_nat] at h0 ⊢
  rw [List.drop_take, show k + 1 - k = 1 by omega]
  generalize l.drop k = r at *
  cases r with
  | nil => rw [List.take_nil]; rfl
  | cons c r =>
    rw [List.take_succ_cons, List.take_zero, read_cons]
    rw [read_cons] at h0
    by_cases h1 : c.toNat < 128
    · rw [if_pos h1] at h0; exact absurd h0 (by simp)
    · rw [if_neg h1]
      by_cases h2 : (headL c).2 = 0
      · rw [if_pos h2]
      · rw [if_neg h2]
        have := head_two h1 h2
        unfold tailL
        rw [if_pos (by simp; omega)]
theorem bad_range (l : List UInt8) : ∀ (f i : Nat), badF f l i = -1 ∨ ((i : Int) ≤ badF f l i ∧ badF f l i < l.length ∧ ∃ k : Nat, badF f l i = k ∧ (nextL l k).2 = 0)
  | 0, i => .inl rfl
  | f + 1, i => by
    show (if i < l.length then (if (nextL l i).2 = 0 then (i : Int) else badF f l (i + (nextL l i).2.toNat)) else -1) = -1 ∨ _
    by_cases h : i < l.length
    · by_cases h0 : (nextL l i).2 = 0
      · right
        have e : badF (f + 1) l i = i := by show (if i < l.length then _ else _) = _; rw [if_pos h, if_pos h0]
        rw [e]; exact ⟨by omega, by omega, i, rfl, h0⟩
      · have e : badF (f + 1) l i = badF f l (i + (nextL l i).2.toNat) := by show (if i < l.length then _ else _) = _; rw [if_pos h, if_neg h0]
        rw [if_pos h, if_neg h0, e]
        rcases bad_range l f (i + (nextL l i).2.toNat) with h' | ⟨h', h2, h3⟩
        · exact .inl h'
        · exact .inr ⟨by omega, h2, h3⟩
    · left; rw [if_neg h]
theorem bad_takes (l : List UInt8) (k : Nat) : ∀ (f i f' : Nat), badF f l i = k → badF f' (l.take k) i = -1 ∧ (k < f' + i → badF f' (l.take (k + 1)) i = k)
  | 0, i, f', h => by have : (-1 : Int) = k := h; omega
  | f + 1, i, f', h => by
    have hr := bad_range l (f + 1) i
    rw [h] at hr
    have h : (if i < l.length then (if (nextL l i).2 = 0 then (i : Int) else badF f l (i + (nextL l i).2.toNat)) else -1) = k := h
    have hik : i ≤ k ∧ k < l.length := by omega
    have hil : i < l.length := by omega
    rw [if_pos hil] at h
    cases f' with
    | zero => exact ⟨rfl, fun hf => by omega⟩
    | succ g =>
    have t1 : (l.take k).length = k := by rw [List.length_take]; omega
    have t2 : (l.take (k + 1)).length = k + 1 := by rw [List.length_take]; omega
    by_cases h0 : (nextL l i).2 = 0
    · rw [if_pos h0] at h
      obtain rfl : i = k := by omega
      constructor
      · show (if i < (l.take i).length then _ else _) = _
        rw [if_neg (by omega)]
      · intro _
        show (if i < (l.take (i + 1)).length then _ else _) = _
        rw [if_pos (by omega), if_pos (next_short h0)]
    · rw [if_neg h0] at h
      have hn := next_n l i
      have hr2 := bad_range l f (i + (nextL l i).2.toNat)
      rw [h] at hr2
      have hk2 : i + (nextL l i).2.toNat ≤ k := by omega
      have e1 := next_take (m := k) h0 hk2
      have e2 := next_take (m := k + 1) h0 (by omega)
      have ih := bad_takes l k f (i + (nextL l i).2.toNat) g h
      clear hr hr2
      constructor
      · show (if i < (l.take k).length then (if (nextL (l.take k) i).2 = 0 then (i : Int) else badF g (l.take k) (i + (nextL (l.take k) i).2.toNat)) else -1) = _
        rw [e1, if_pos (by omega), if_neg h0]; exact ih.1
      · intro hf
        show (if i < (l.take (k + 1)).length then (if (nextL (l.take (k + 1)) i).2 = 0 then (i : Int) else badF g (l.take (k + 1)) (i + (nextL (l.take (k + 1)) i).2.toNat)) else -1) = _
        rw [e2, if_pos (by omega), if_neg h0]; exact ih.2 (by omega)
/-- the law -/
theorem bad_law {l : List UInt8} {k : Nat} (h : badL l = k) : k < l.length ∧ (nextL l k).2 = 0 ∧ badL (l.take k) = -1 ∧ badL (l.take (k + 1)) = k := by
  have hr := bad_range l (l.length + 1) 0
  have h' : badF (l.length + 1) l 0 = k := h
  rw [h'] at hr
  have hk : k < l.length := by omega
  have h0 : (nextL l k).2 = 0 := by
    rcases hr with hr | ⟨_, _, j, hj, h0⟩
    · omega
    · obtain rfl : k = j := by omega
      exact h0
  refine ⟨hk, h0, ?_, ?_⟩
  · have t1 : (l.take k).length = k := by rw [List.length_take]; omega
    unfold badL; rw [t1]
    exact (bad_takes l k (l.length + 1) 0 (k + 1) h').1
  · have t2 : (l.take (k + 1)).length = k + 1 := by rw [List.length_take]; omega
    unfold badL; rw [t2]
    exact (bad_takes l k (l.length + 1) 0 (k + 1 + 1) h').2 (by omega)
theorem bad_some (l : List UInt8) : badL l = -1 ∨ ∃ k : Nat, badL l = k := by
  rcases bad_range l (l.length + 1) 0 with h | ⟨_, _, k, h, _⟩
  · exact .inl h
  · exact .inr ⟨k, h⟩
end Go.Proofs.Ytmafdlabbgpacaa

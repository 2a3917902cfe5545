/- The plain law of UtfBack: what is put as bytes is read as the same runes. -/
import Derived.Test.YtmafdlabbgpacaaP1
import Derived.Test.YtmafdlabbgpacaaP2
namespace Go.Proofs.Ytmafdlabbgpacaa
open Go.RowKit

theorem put_len (r : Int) : (putL r).length ≤ 4 := by
  rcases put_cases r with h | ⟨_, _, h⟩ | ⟨_, _, h⟩ | ⟨_, _, h⟩ | ⟨_, _, h⟩ <;> rw [h] <;> simp
theorem read_of {c : UInt8} {tl m : List UInt8} {x r : Int} {n : Nat} (hn : headL c = (x, n)) (h128 : ¬ c.toNat < 128) (n0 : n = tl.length + 1) (n2 : 2 ≤ n)
    (hall : tl.all contB = true) (hacc : accL x tl = r) (hlen : (putL r).length = n) : readL (c :: (tl ++ m)) = (r, (n : Int)) := by
  rw [read_cons, if_neg h128, hn]
  simp only
  rw [if_neg (by omega), tail_good (tl := tl) (by rw [n0, Nat.add_sub_cancel, List.take_left]) (by omega) hall, hacc, if_pos hlen]
theorem contB_of (x : Int) (h0 : 0 ≤ x) (h : x < 64) : contB (by8 (128 + x)) = true := by
  rw [cont_iff, by8_nat (128 + x) (by omega) (by omega)]; omega
theorem mod_of (x : Int) (h0 : 0 ≤ x) (h : x < 64) : ((by8 (128 + x)).toNat : Int) % 64 = x := by
  rw [by8_nat (128 + x) (by omega) (by omega)]; omega
theorem read_put {r : Int} (h : putL r ≠ []) (m : List UInt8) : readL (putL r ++ m) = (r, ((putL r).length : Int)) := by
  rcases put_cases r with h0 | ⟨h1, h2, hp⟩ | ⟨h1, h2, hp⟩ | ⟨h1, h2, hp⟩ | ⟨h1, h2, hp⟩
  · exact absurd h0 h
  · have hb := by8_nat r (by omega) (by omega)
    rw [hp, List.cons_append, List.nil_append, read_cons, if_pos (by omega), hb]; rfl
  · have hb := by8_nat (192 + r / 64) (by omega) (by omega)
    have hh : headL (by8 (192 + r / 64)) = (r / 64, 2) := by
      unfold headL
      rw [if_neg (by omega), if_neg (by omega), if_pos (by omega), hb]
      congr 1; omega
    have hl : (putL r).length = 2 := by rw [hp]; rfl
    rw [hl]
    conv => lhs; rw [hp]
    refine read_of (tl := [by8 (128 + r % 64)]) hh (by omega) rfl (by omega) ?_ ?_ hl
    · simp [contB_of (r % 64) (by omega) (by omega)]
    · simp only [accL, List.foldl_cons, List.foldl_nil, mod_of (r % 64) (by omega) (by omega)]; omega
  · have hb := by8_nat (224 + r / 4096) (by omega) (by omega)
    have hh : headL (by8 (224 + r / 4096)) = (r / 4096, 3) := by
      unfold headL
      rw [if_neg (by omega), if_neg (by omega), if_neg (by omega), if_pos (by omega), hb]
      congr 1; omega
    have hl : (putL r).length = 3 := by rw [hp]; rfl
    rw [hl]
    conv => lhs; rw [hp]
    refine read_of (tl := [by8 (128 + r / 64 % 64), by8 (128 + r % 64)]) hh (by omega) rfl (by omega) ?_ ?_ hl
    · simp [contB_of (r % 64) (by omega) (by omega), contB_of (r / 64 % 64) (by omega) (by omega)]
    · simp only [accL, List.foldl_cons, List.foldl_nil, mod_of (r % 64) (by omega) (by omega), mod_of (r / 64 % 64) (by omega) (by omega)]; omega
  · have hb := by8_nat (240 + r / 262144) (by omega) (by omega)
    have hh : headL (by8 (240 + r / 262144)) = (r / 262144, 4) := by
      unfold headL
      rw [if_neg (by omega), if_neg (by omega), if_neg (by omega), if_neg (by omega), if_pos (by omega), hb]
      congr 1; omega
    have hl : (putL r).length = 4 := by rw [hp]; rfl
    rw [hl]
    conv => lhs; rw [hp]
    refine read_of (tl := [by8 (128 + r / 4096 % 64), by8 (128 + r / 64 % 64), by8 (128 + r % 64)]) hh (by omega) rfl (by omega) ?_ ?_ hl
    · simp [contB_of (r % 64) (by omega) (by omega), contB_of (r / 64 % 64) (by omega) (by omega), contB_of (r / 4096 % 64) (by omega) (by omega)]
    · simp only [accL, List.foldl_cons, List.foldl_nil, mod_of (r % 64) (by omega) (by omega), mod_of (r / 64 % 64) (by omega) (by omega), mod_of (r / 4096 % 64) (by omega) (by omega)]; omega
theorem bad_put : ∀ (ks : List Int), (∀ r ∈ ks, putL r ≠ []) → ∀ (l : List UInt8) (i f : Nat), l.drop i = ks.flatMap putL → badF f l i = -1
  | [], _, l, i, f, hd => by
    have : l.length ≤ i := by simpa using hd
    cases f with
    | zero => rfl
    | succ f => unfold badF; rw [if_neg (by omega)]
  | r :: ks, hk, l, i, f, hd => by
    cases f with
    | zero => rfl
    | succ f =>
      unfold badF
      split
      · have hn : nextL l i = (r, ((putL r).length : Int)) := by rw [next_nat, hd, List.flatMap_cons]; exact read_put (hk r (by simp)) _
        have h0 : (putL r).length ≠ 0 := fun e => hk r (by simp) (List.eq_nil_of_length_eq_zero e)
        rw [hn]
        simp only
        rw [if_neg (by omega)]
        refine bad_put ks (fun x hx => hk x (by simp [hx])) l _ f ?_
        rw [Int.toNat_natCast, ← List.drop_drop, hd, List.flatMap_cons, List.drop_left]
      · rfl
def kp (l : List Int) : List Int := l.filter (fun r => putL r != [])
def bs (l : List Int) : List UInt8 := l.flatMap putL
theorem kp_snoc (l : List Int) (r : Int) : kp (l ++ [r]) = if putL r = [] then kp l else kp l ++ [r] := by
  unfold kp
  rw [List.filter_append]
  by_cases h : putL r = [] <;> simp [h]
theorem bs_snoc (l : List Int) (r : Int) : bs (l ++ [r]) = bs l ++ putL r := by unfold bs; simp
theorem bs_len (l : List Int) : (bs l).length ≤ 4 * l.length := by
  unfold bs
  induction l with
  | nil => simp
  | cons r l ih => rw [List.flatMap_cons, List.length_append, List.length_cons]; have := put_len r; omega
theorem kp_len (l : List Int) : (kp l).length ≤ l.length := List.length_filter_le _ _
theorem bs_kp (l : List Int) : bs (kp l) = bs l := by
  unfold bs kp
  induction l with
  | nil => rfl
  | cons r l ih =>
    by_cases h : putL r = []
    · simp [h, ih]
    · simp [h, ih]
theorem kp_put (l : List Int) : ∀ r ∈ kp l, putL r ≠ [] := by
  intro r hr
  have := (List.mem_filter.1 hr).2
  simpa using this
theorem bad_kp (l : List Int) : badL (bs l) = -1 := by
  unfold badL
  refine bad_put (kp l) (kp_put l) _ 0 _ ?_
  rw [List.drop_zero, ← bs_kp]; rfl
/-- the place behind the first j runes -/
def pl (l : List Int) (j : Nat) : Nat := (bs ((kp l).take j)).length
theorem pl_zero (l : List Int) : pl l 0 = 0 := by simp [pl, bs]
theorem pl_end (l : List Int) : pl l (kp l).length = (bs l).length := by unfold pl; rw [List.take_length, bs_kp]
theorem pl_next {l : List Int} {j : Nat} {r : Int} (hj : (kp l)[j]? = some r) : nextL (bs l) (pl l j : Nat) = (r, ((putL r).length : Int)) ∧ pl l (j + 1) = pl l j + (putL r).length ∧ 1 ≤ (putL r).length ∧ (putL r).length ≤ 4 := by
  have hlt : j < (kp l).length := by
    rcases Nat.lt_or_ge j (kp l).length with h | h
    · exact h
    · rw [List.getElem?_eq_none h] at hj; cases hj
  have he : (kp l)[j] = r := by rw [List.getElem?_eq_getElem hlt] at hj; exact Option.some.inj hj
  have hp : putL r ≠ [] := kp_put l r (he ▸ List.getElem_mem hlt)
  have h0 : (putL r).length ≠ 0 := fun e => hp (List.eq_nil_of_length_eq_zero e)
  refine ⟨?_, ?_, by omega, put_len r⟩
  · have hs : bs l = bs ((kp l).take j) ++ (putL r ++ bs ((kp l).drop (j + 1))) := by
      rw [← bs_kp l]
      conv => lhs; rw [← List.take_append_drop j (kp l), List.drop_eq_getElem_cons hlt, he]
      unfold bs; simp
    rw [next_nat, hs]
    unfold pl
    rw [List.drop_left]
    exact read_put hp _
  · unfold pl
    rw [List.take_succ_eq_append_getElem hlt, he, bs_snoc, List.length_append]
end Go.Proofs.Ytmafdlabbgpacaa

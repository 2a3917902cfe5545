/- The document's Next reads what utf.Next reads. -/
import Derived.Test.YtmafdlabbgpacaaC2
namespace Go.Proofs.Ytmafdlabbgpacaa

/-- the number of which n bytes tell -/
def rN (n : Nat) : List UInt8 → Int
  | [] => 0
  | c :: m => if n = 1 then (c.toNat : Int) else accL ((c.toNat : Int) % 2 ^ (7 - n)) (m.take (n - 1))
def refF : Nat → Nat → List UInt8 → Int × Int
  | 0, _, _ => (0, 0)
  | f + 1, n, l => if n ≤ 4 ∧ n ≤ l.length then (if putL (rN n l) = l.take n then (rN n l, (n : Int)) else refF f (n + 1) l) else (0, 0)
def refReadL (l : List UInt8) : Int × Int := refF 5 1 l

theorem by8_inj (n : Int) (h0 : 0 ≤ n) (h : n < 256) (c : UInt8) (he : by8 n = c) : (c.toNat : Int) = n := by rw [← he]; exact by8_nat n h0 h
theorem by8_of (c : UInt8) (n : Int) (h : (c.toNat : Int) = n) : by8 n = c := by
  have hc := c.toNat_lt
  apply UInt8.toNat_inj.1
  have := by8_nat n (by omega) (by omega)
  omega
theorem put_cases (r : Int) : putL r = [] ∨ (0 ≤ r ∧ r < 128 ∧ putL r = [by8 r]) ∨ (128 ≤ r ∧ r < 2048 ∧ putL r = [by8 (192 + r / 64), by8 (128 + r % 64)]) ∨
    (2048 ≤ r ∧ r < 65536 ∧ putL r = [by8 (224 + r / 4096), by8 (128 + r / 64 % 64), by8 (128 + r % 64)]) ∨
    (65536 ≤ r ∧ r ≤ 1114111 ∧ putL r = [by8 (240 + r / 262144), by8 (128 + r / 4096 % 64), by8 (128 + r / 64 % 64), by8 (128 + r % 64)]) := by
  unfold putL
  by_cases h : r < 0 ∨ 1114111 < r ∨ (55296 ≤ r ∧ r ≤ 57343)
  · left; rw [if_pos h]
  · rw [if_neg h]
    by_cases h1 : r < 128
    · right; left; rw [if_pos h1]; exact ⟨by omega, h1, rfl⟩
    · rw [if_neg h1]
      by_cases h2 : r < 2048
      · right; right; left; rw [if_pos h2]; exact ⟨by omega, h2, rfl⟩
      · rw [if_neg h2]
        by_cases h3 : r < 65536
        · right; right; right; left; rw [if_pos h3]; exact ⟨by omega, h3, rfl⟩
        · right; right; right; right; rw [if_neg h3]; exact ⟨by omega, by omega, rfl⟩
/-- what the first byte of a rune tells -/
theorem put_head {r : Int} {c : UInt8} {m : List UInt8} (h : putL r = c :: m) :
    (m.length = 0 ∧ c.toNat < 128 ∧ r = c.toNat) ∨ (m.length = 1 ∧ 192 ≤ c.toNat ∧ c.toNat < 224) ∨ (m.length = 2 ∧ 224 ≤ c.toNat ∧ c.toNat < 240) ∨ (m.length = 3 ∧ 240 ≤ c.toNat ∧ c.toNat < 248) := by
  rcases put_cases r with h' | ⟨a, b, h'⟩ | ⟨a, b, h'⟩ | ⟨a, b, h'⟩ | ⟨a, b, h'⟩
  · rw [h'] at h; cases h
  · rw [h'] at h
    simp only [List.cons.injEq] at h
    have := by8_inj r (by omega) (by omega) c h.1
    left; rw [← h.2]; exact ⟨rfl, by omega, by omega⟩
  · rw [h'] at h
    simp only [List.cons.injEq] at h
    have := by8_inj _ (by omega) (by omega) c h.1
    right; left; rw [← h.2]; exact ⟨rfl, by omega, by omega⟩
  · rw [h'] at h
    simp only [List.cons.injEq] at h
    have := by8_inj _ (by omega) (by omega) c h.1
    right; right; left; rw [← h.2]; exact ⟨rfl, by omega, by omega⟩
  · rw [h'] at h
    simp only [List.cons.injEq] at h
    have := by8_inj _ (by omega) (by omega) c h.1
    right; right; right; rw [← h.2]; exact ⟨rfl, by omega, by omega⟩
theorem head_n4 (c : UInt8) : (headL c).2 ≤ 4 := by
  unfold headL; repeat (split; simp)
  simp
/-- as many bytes as the first one tells -/
def needs (c : UInt8) : Nat := (headL c).2
theorem put_needs {r : Int} {c : UInt8} {m : List UInt8} (h : putL r = c :: m) : needs c = m.length + 1 := by
  unfold needs headL
  rcases put_head h with ⟨a, b, _⟩ | ⟨a, b, d⟩ | ⟨a, b, d⟩ | ⟨a, b, d⟩
  · rw [if_pos b, a]
  · rw [if_neg (by omega), if_neg (by omega), if_pos d, a]
  · rw [if_neg (by omega), if_neg (by omega), if_neg (by omega), if_pos d, a]
  · rw [if_neg (by omega), if_neg (by omega), if_neg (by omega), if_neg (by omega), if_pos d, a]
/-- another number of bytes is not tried with success -/
theorem ref_miss {n : Nat} {c : UInt8} {m : List UInt8} (h1 : 1 ≤ n) (hl : n ≤ m.length + 1) (hn : needs c ≠ n) : putL (rN n (c :: m)) ≠ (c :: m).take n := by
  intro h
  obtain ⟨k, rfl⟩ : ∃ k, n = k + 1 := ⟨n - 1, by omega⟩
  rw [List.take_succ_cons] at h
  have := put_needs h
  rw [List.length_take] at this
  omega
theorem cont_iff (c : UInt8) : contB c = true ↔ 128 ≤ (c.toNat : Int) ∧ (c.toNat : Int) < 192 := by
  unfold contB; rw [decide_eq_true_eq]; omega
theorem hit2 {c d : UInt8} (hc : 192 ≤ c.toNat ∧ c.toNat < 224) (x : Int) (hx : x = (c.toNat : Int) % 32 * 64 + (d.toNat : Int) % 64) : putL x = [c, d] ↔ (contB d = true ∧ (putL x).length = 2) := by
  rw [cont_iff]
  constructor
  · intro h
    refine ⟨?_, by rw [h]; rfl⟩
    rcases put_cases x with h' | ⟨a, b, h'⟩ | ⟨a, b, h'⟩ | ⟨a, b, h'⟩ | ⟨a, b, h'⟩ <;> rw [h'] at h <;> simp only [List.cons.injEq, reduceCtorEq, and_false, and_true] at h
    have := by8_inj _ (by omega) (by omega) d h.2
    omega
  · rintro ⟨hd, hl⟩
    rcases put_cases x with h' | ⟨a, b, h'⟩ | ⟨a, b, h'⟩ | ⟨a, b, h'⟩ | ⟨a, b, h'⟩ <;> rw [h'] at hl <;> simp only [List.length_cons, List.length_nil] at hl <;> try omega
    rw [h', by8_of c _ (by omega), by8_of d _ (by omega)]
theorem hit3 {c d e : UInt8} (hc : 224 ≤ c.toNat ∧ c.toNat < 240) (x : Int) (hx : x = ((c.toNat : Int) % 16 * 64 + (d.toNat : Int) % 64) * 64 + (e.toNat : Int) % 64) : putL x = [c, d, e] ↔ ((contB d = true ∧ contB e = true) ∧ (putL x).length = 3) := by
  rw [cont_iff, cont_iff]
  constructor
  · intro h
    refine ⟨?_, by rw [h]; rfl⟩
    rcases put_cases x with h' | ⟨a, b, h'⟩ | ⟨a, b, h'⟩ | ⟨a, b, h'⟩ | ⟨a, b, h'⟩ <;> rw [h'] at h <;> simp only [List.cons.injEq, reduceCtorEq, and_false, and_true] at h
    have := by8_inj _ (by omega) (by omega) d h.2.1
    have := by8_inj _ (by omega) (by omega) e h.2.2
    omega
  · rintro ⟨hd, hl⟩
    rcases put_cases x with h' | ⟨a, b, h'⟩ | ⟨a, b, h'⟩ | ⟨a, b, h'⟩ | ⟨a, b, h'⟩ <;> rw [h'] at hl <;> simp only [List.length_cons, List.length_nil] at hl <;> try omega
    rw [h', by8_of c _ (by omega), by8_of d _ (by omega), by8_of e _ (by omega)]
theorem hit4 {c d e f : UInt8} (hc : 240 ≤ c.toNat ∧ c.toNat < 248) (x : Int) (hx : x = (((c.toNat : Int) % 8 * 64 + (d.toNat : Int) % 64) * 64 + (e.toNat : Int) % 64) * 64 + (f.toNat : Int) % 64) : putL x = [c, d, e, f] ↔ ((contB d = true ∧ contB e = true ∧ contB f = true) ∧ (putL x).length = 4) := by
  rw [cont_iff, cont_iff, cont_iff]
  constructor
  · intro h
    refine ⟨?_, by rw [h]; rfl⟩
    rcases put_cases x with h' | ⟨a, b, h'⟩ | ⟨a, b, h'⟩ | ⟨a, b, h'⟩ | ⟨a, b, h'⟩ <;> rw [h'] at h <;> simp only [List.cons.injEq, reduceCtorEq, and_false, and_true] at h
    have := by8_inj _ (by omega) (by omega) d h.2.1
    have := by8_inj _ (by omega) (by omega) e h.2.2.1
    have := by8_inj _ (by omega) (by omega) f h.2.2.2
    omega
  · rintro ⟨hd, hl⟩
    rcases put_cases x with h' | ⟨a, b, h'⟩ | ⟨a, b, h'⟩ | ⟨a, b, h'⟩ | ⟨a, b, h'⟩ <;> rw [h'] at hl <;> simp only [List.length_cons, List.length_nil] at hl <;> try omega
    rw [h', by8_of c _ (by omega), by8_of d _ (by omega), by8_of e _ (by omega), by8_of f _ (by omega)]
/-- the right number of bytes -/
theorem ref_hit {c : UInt8} {m : List UInt8} {n : Nat} (hn : needs c = n) (h1 : 2 ≤ n) (hl : n ≤ m.length + 1) :
    rN n (c :: m) = accL (headL c).1 (m.take (n - 1)) ∧ ((putL (rN n (c :: m)) = (c :: m).take n) ↔ ((m.take (n - 1)).all contB = true ∧ (putL (accL (headL c).1 (m.take (n - 1)))).length = n)) := by
  unfold needs headL at hn
  by_cases a1 : c.toNat < 128
  · rw [if_pos a1] at hn; simp at hn; omega
  rw [if_neg a1] at hn
  by_cases a2 : c.toNat < 192
  · rw [if_pos a2] at hn; simp at hn; omega
  rw [if_neg a2] at hn
  by_cases a3 : c.toNat < 224
  · rw [if_pos a3] at hn
    obtain rfl : 2 = n := hn
    have hh : headL c = ((c.toNat : Int) % 32, 2) := by unfold headL; rw [if_neg a1, if_neg a2, if_pos a3]
    rw [hh]
    match m, hl with
    | d :: m, _ =>
      refine ⟨rfl, ?_⟩
      have := hit2 (c := c) (d := d) ⟨by omega, a3⟩ _ rfl
      simpa [rN, accL] using this
  rw [if_neg a3] at hn
  by_cases a4 : c.toNat < 240
  · rw [if_pos a4] at hn
    obtain rfl : 3 = n := hn
    have hh : headL c = ((c.toNat : Int) % 16, 3) := by unfold headL; rw [if_neg a1, if_neg a2, if_neg a3, if_pos a4]
    rw [hh]
    match m, hl with
    | d :: e :: m, _ =>
      refine ⟨rfl, ?_⟩
      have := hit3 (c := c) (d := d) (e := e) ⟨by omega, a4⟩ _ rfl
      simpa [rN, accL] using this
  rw [if_neg a4] at hn
  by_cases a5 : c.toNat < 248
  · rw [if_pos a5] at hn
    obtain rfl : 4 = n := hn
    have hh : headL c = ((c.toNat : Int) % 8, 4) := by unfold headL; rw [if_neg a1, if_neg a2, if_neg a3, if_neg a4, if_pos a5]
    rw [hh]
    match m, hl with
    | d :: e :: f :: m, _ =>
      refine ⟨rfl, ?_⟩
      have := hit4 (c := c) (d := d) (e := e) (f := f) ⟨by omega, a5⟩ _ rfl
      simpa [rN, accL] using this
  · rw [if_neg a5] at hn; simp at hn; omega
/-- the tries, up to the right one -/
theorem ref_skip {c : UInt8} {m : List UInt8} : ∀ (f n : Nat), 1 ≤ n → n < needs c → refF (f + 1) n (c :: m) = if n ≤ m.length + 1 then refF f (n + 1) (c :: m) else (0, 0) := by
  intro f n h1 h2
  have h4 : n ≤ 4 := by have := (show needs c ≤ 4 from head_n4 c); omega
  show (if n ≤ 4 ∧ n ≤ (c :: m).length then _ else _) = _
  rw [List.length_cons]
  by_cases hl : n ≤ m.length + 1
  · rw [if_pos ⟨h4, hl⟩, if_pos hl, if_neg (ref_miss h1 hl (by omega))]
  · rw [if_neg (by omega), if_neg hl]
/-- behind it there is none -/
theorem ref_none {c : UInt8} {m : List UInt8} : ∀ (f n : Nat), 1 ≤ n → needs c < n → refF f n (c :: m) = (0, 0) := by
  intro f
  induction f with
  | zero => intro n _ _; rfl
  | succ f ih =>
    intro n h1 h2
    show (if n ≤ 4 ∧ n ≤ (c :: m).length then _ else _) = _
    rw [List.length_cons]
    by_cases hl : n ≤ 4 ∧ n ≤ m.length + 1
    · rw [if_pos hl, if_neg (ref_miss h1 hl.2 (by omega))]
      exact ih (n + 1) (by omega) (by omega)
    · rw [if_neg hl]
theorem ref_at {c : UInt8} {m : List UInt8} {n : Nat} (hn : needs c = n) (h1 : 2 ≤ n) (f : Nat) : refF (f + 1) n (c :: m) = tailL (headL c).1 n m := by
  have h4 : n ≤ 4 := by have := head_n4 c; unfold needs at hn; omega
  show (if n ≤ 4 ∧ n ≤ (c :: m).length then _ else _) = _
  rw [List.length_cons]
  unfold tailL
  by_cases hl : n ≤ m.length + 1
  · obtain ⟨e, hh⟩ := ref_hit hn h1 hl
    rw [if_pos ⟨h4, hl⟩, if_neg (show ¬ m.length < n - 1 by omega)]
    by_cases ha : (m.take (n - 1)).all contB = true
    · rw [if_pos ha]
      by_cases hp : (putL (accL (headL c).1 (m.take (n - 1)))).length = n
      · rw [if_pos (hh.2 ⟨ha, hp⟩), if_pos hp, e]
      · rw [if_neg (fun h => hp (hh.1 h).2), if_neg hp, ref_none _ _ (by omega) (by omega)]
    · rw [if_neg ha, if_neg (fun h => ha (hh.1 h).1), ref_none _ _ (by omega) (by omega)]
  · rw [if_neg (by omega), if_pos (show m.length < n - 1 by omega)]
theorem tail_short {r : Int} {n : Nat} {m : List UInt8} (h : m.length < n - 1) : tailL r n m = (0, 0) := by unfold tailL; rw [if_pos h]
theorem ref_reads (l : List UInt8) : refReadL l = readL l := by
  cases l with
  | nil => rfl
  | cons c m =>
    show refF 5 1 (c :: m) = if c.toNat < 128 then ((c.toNat : Int), 1) else if (headL c).2 = 0 then (0, 0) else tailL (headL c).1 (headL c).2 m
    by_cases h1 : c.toNat < 128
    · rw [if_pos h1]
      show (if 1 ≤ 4 ∧ 1 ≤ (c :: m).length then _ else _) = _
      rw [List.length_cons, if_pos (by omega)]
      have hp : putL (rN 1 (c :: m)) = (c :: m).take 1 := by
        show putL (c.toNat : Int) = [c]
        unfold putL
        rw [if_neg (by omega), if_pos (by omega), by8_of c _ rfl]
      rw [if_pos hp]; rfl
    · rw [if_neg h1]
      have hne : needs c ≠ 1 := by
        unfold needs headL
        rw [if_neg h1]
        split
        · simp
        · split
          · simp
          · split
            · simp
            · split <;> simp
      have h4 : needs c ≤ 4 := head_n4 c
      show _ = if needs c = 0 then (0, 0) else tailL (headL c).1 (needs c) m
      by_cases h0 : needs c = 0
      · rw [if_pos h0, ref_none _ _ (by omega) (by omega)]
      · rw [if_neg h0]
        show _ = tailL (headL c).1 (needs c) m
        rw [ref_skip 4 1 (by omega) (by omega)]
        by_cases l1 : 1 ≤ m.length + 1
        rotate_left
        · omega
        rw [if_pos l1]
        by_cases n2 : needs c = 2
        · rw [n2, ref_at n2 (by omega) 3]
        rw [ref_skip 3 2 (by omega) (by omega)]
        by_cases l2 : 2 ≤ m.length + 1
        rotate_left
        · rw [if_neg l2, tail_short (by omega)]
        rw [if_pos l2]
        by_cases n3 : needs c = 3
        · rw [n3, ref_at n3 (by omega) 2]
        rw [ref_skip 2 3 (by omega) (by omega)]
        by_cases l3 : 3 ≤ m.length + 1
        rotate_left
        · rw [if_neg l3, tail_short (by omega)]
        rw [if_pos l3]
        have n4 : needs c = 4 := by omega
        rw [n4, ref_at n4 (by omega) 1]
end Go.Proofs.Ytmafdlabbgpacaa

namespace Go.Proofs.Ytdhhpnfdnoaihaa.PCrc
def poly : BitVec 32 := 0xedb88320#32
/-- one bit -/
def s1 (c : BitVec 32) : BitVec 32 := (c >>> 1) ^^^ (poly &&& -(c &&& 1#32))
def s8 (c : BitVec 32) : BitVec 32 := s1 (s1 (s1 (s1 (s1 (s1 (s1 (s1 c)))))))
def step (c : BitVec 32) (b : BitVec 8) : BitVec 32 := s8 (c ^^^ b.setWidth 32)
def run (c : BitVec 32) (l : List (BitVec 8)) : BitVec 32 := l.foldl step c
def sum (l : List (BitVec 8)) : BitVec 32 := ~~~ (run (~~~ 0#32) l)

theorem low_cases (c : BitVec 32) : c &&& 1#32 = 0#32 ∨ c &&& 1#32 = 1#32 := by
  have h : (c &&& 1#32).toNat = c.toNat % 2 := by
    rw [BitVec.toNat_and]; exact Nat.and_one_is_mod _
  rcases Nat.mod_two_eq_zero_or_one c.toNat with h' | h'
  · left; apply BitVec.eq_of_toNat_eq; rw [h, h']; rfl
  · right; apply BitVec.eq_of_toNat_eq; rw [h, h']; rfl

theorem s1_xor (a b : BitVec 32) : s1 (a ^^^ b) = s1 a ^^^ s1 b := by
  unfold s1
  have e : (a ^^^ b) &&& 1#32 = (a &&& 1#32) ^^^ (b &&& 1#32) := by
    apply BitVec.eq_of_getLsbD_eq; intro i hi
    simp only [BitVec.getLsbD_and, BitVec.getLsbD_xor]
    cases a.getLsbD i <;> cases b.getLsbD i <;> cases (1#32).getLsbD i <;> rfl
  have e2 : (a ^^^ b) >>> 1 = (a >>> 1) ^^^ (b >>> 1) := by
    apply BitVec.eq_of_getLsbD_eq; intro i hi
    simp only [BitVec.getLsbD_ushiftRight, BitVec.getLsbD_xor]
  rw [e, e2]
  have key : poly &&& -((a &&& 1#32) ^^^ (b &&& 1#32)) = (poly &&& -(a &&& 1#32)) ^^^ (poly &&& -(b &&& 1#32)) := by
    rcases low_cases a with h | h <;> rcases low_cases b with h' | h' <;> rw [h, h'] <;> decide
  rw [key]
  generalize a >>> 1 = x; generalize b >>> 1 = y
  generalize poly &&& -(a &&& 1#32) = z; generalize poly &&& -(b &&& 1#32) = t
  ac_rfl
theorem s8_xor (a b : BitVec 32) : s8 (a ^^^ b) = s8 a ^^^ s8 b := by simp only [s8, s1_xor]
theorem s1_zero : s1 0#32 = 0#32 := by decide
theorem s8_zero : s8 0#32 = 0#32 := by decide

theorem s1_inj0 (c : BitVec 32) (h : s1 c = 0#32) : c = 0#32 := by
  unfold s1 at h
  have top : (c >>> 1).getLsbD 31 = false := by simp
  rcases low_cases c with h' | h'
  · rw [h'] at h
    have h0 : c >>> 1 = 0#32 := by simpa using h
    have h1 : c.toNat / 2 = 0 := by
      have := congrArg BitVec.toNat h0
      simpa [BitVec.toNat_ushiftRight, Nat.shiftRight_eq_div_pow] using this
    have h2 : c.toNat % 2 = 0 := by
      have := congrArg BitVec.toNat h'
      rw [BitVec.toNat_and] at this
      rw [← Nat.and_one_is_mod]; exact this
    apply BitVec.eq_of_toNat_eq
    show c.toNat = 0
    omega
  · rw [h'] at h
    have := congrArg (fun x => BitVec.getLsbD x 31) h
    simp only [BitVec.getLsbD_xor, top] at this
    exact absurd this (by decide)
theorem s8_inj0 (c : BitVec 32) (h : s8 c = 0#32) : c = 0#32 := by
  unfold s8 at h
  exact s1_inj0 _ (s1_inj0 _ (s1_inj0 _ (s1_inj0 _ (s1_inj0 _ (s1_inj0 _ (s1_inj0 _ (s1_inj0 _ h)))))))
theorem xor_eq_zero {a b : BitVec 32} : a ^^^ b = 0#32 ↔ a = b := by
  constructor
  · intro h
    have : a ^^^ b ^^^ b = 0#32 ^^^ b := by rw [h]
    rwa [BitVec.xor_assoc, BitVec.xor_self, BitVec.xor_zero, BitVec.zero_xor] at this
  · rintro rfl; exact BitVec.xor_self
theorem s8_inj {a b : BitVec 32} (h : s8 a = s8 b) : a = b := by
  rw [← xor_eq_zero]; apply s8_inj0; rw [s8_xor, h, BitVec.xor_self]
theorem xor_right_inj {a b c : BitVec 32} (h : a ^^^ c = b ^^^ c) : a = b := by
  have := congrArg (· ^^^ c) h
  simpa [BitVec.xor_assoc] using this
theorem step_inj {c d : BitVec 32} {b : BitVec 8} (h : step c b = step d b) : c = d := xor_right_inj (s8_inj h)
theorem run_cons (c : BitVec 32) (b : BitVec 8) (l : List (BitVec 8)) : run c (b :: l) = run (step c b) l := rfl
theorem run_append (c : BitVec 32) (l m : List (BitVec 8)) : run c (l ++ m) = run (run c l) m := by simp [run, List.foldl_append]
theorem run_inj {c d : BitVec 32} (l : List (BitVec 8)) (h : run c l = run d l) : c = d := by
  induction l generalizing c d with
  | nil => exact h
  | cons b l ih => exact step_inj (ih h)

def bits1 : Nat → BitVec 32 → BitVec 32
  | 0, c => c
  | n + 1, c => s1 (bits1 n c)
theorem bits8 (c : BitVec 32) : bits1 8 c = s8 c := rfl
/-- n times a step with the byte 0 -/
def pow : Nat → BitVec 32 → BitVec 32
  | 0, c => c
  | n + 1, c => pow n (s8 c)
theorem pow_xor (n : Nat) (a b : BitVec 32) : pow n (a ^^^ b) = pow n a ^^^ pow n b := by
  induction n generalizing a b with
  | zero => rfl
  | succ n ih => simp only [pow, s8_xor, ih]
theorem pow_add (m n : Nat) (c : BitVec 32) : pow (m + n) c = pow n (pow m c) := by
  induction m generalizing c with
  | zero => simp [pow]
  | succ m ih => rw [Nat.succ_add]; exact ih _
theorem pow_zero (n : Nat) : pow n 0#32 = 0#32 := by
  induction n with
  | zero => rfl
  | succ n ih => simp only [pow, s8_zero, ih]
theorem pow_inj0 (n : Nat) (c : BitVec 32) (h : pow n c = 0#32) : c = 0#32 := by
  induction n generalizing c with
  | zero => exact h
  | succ n ih => exact s8_inj0 _ (ih _ h)
theorem step_xor (c d : BitVec 32) (b e : BitVec 8) : step (c ^^^ d) (b ^^^ e) = step c b ^^^ step d e := by
  unfold step
  rw [← s8_xor]
  congr 1
  have : (b ^^^ e).setWidth 32 = b.setWidth 32 ^^^ e.setWidth 32 := BitVec.setWidth_xor
  rw [this]; ac_rfl
theorem step_split (c d : BitVec 32) (b : BitVec 8) : step (c ^^^ d) b = s8 c ^^^ step d b := by
  have := step_xor c d 0#8 b
  rw [BitVec.zero_xor] at this
  rw [this]
  congr 1
  show s8 (c ^^^ (0#8).setWidth 32) = s8 c
  rw [show (0#8).setWidth 32 = 0#32 from rfl, BitVec.xor_zero]
theorem run_split (c d : BitVec 32) (l : List (BitVec 8)) : run (c ^^^ d) l = pow l.length c ^^^ run d l := by
  induction l generalizing c d with
  | nil => rfl
  | cons b l ih => rw [run_cons, step_split, ih]; rfl
theorem run_split0 (c : BitVec 32) (l : List (BitVec 8)) : run c l = pow l.length c ^^^ run 0#32 l := by
  have := run_split c 0#32 l
  rwa [BitVec.xor_zero] at this

theorem not_eq (a : BitVec 32) : ~~~ a = a ^^^ ~~~ 0#32 := by
  rw [BitVec.not_zero]; exact BitVec.xor_allOnes.symm
/-- P2.2 -/
theorem join (a b : List (BitVec 8)) : pow b.length (sum a) ^^^ sum b = sum (a ++ b) := by
  unfold sum
  rw [run_append, run_split0 (run _ a) b, run_split0 (~~~ 0#32) b, not_eq (run (~~~ 0#32) a), pow_xor]
  rw [not_eq (pow b.length (~~~ 0#32) ^^^ run 0#32 b), not_eq (pow b.length (run (~~~ 0#32) a) ^^^ run 0#32 b)]
  generalize pow b.length (run (~~~ 0#32) a) = x
  generalize pow b.length (~~~ 0#32) = y
  generalize run 0#32 b = z
  generalize ~~~ 0#32 = t
  calc (x ^^^ y) ^^^ ((y ^^^ z) ^^^ t) = (x ^^^ (y ^^^ y)) ^^^ (z ^^^ t) := by ac_rfl
    _ = (x ^^^ z) ^^^ t := by rw [BitVec.xor_self, BitVec.xor_zero]; ac_rfl

/-- lists of one length: the difference -/
theorem run_diff : ∀ (l m : List (BitVec 8)) (c d : BitVec 32), l.length = m.length →
    run c l ^^^ run d m = run (c ^^^ d) (List.zipWith (· ^^^ ·) l m)
  | [], [], c, d, _ => rfl
  | b :: l, e :: m, c, d, h => by
    rw [run_cons, run_cons, run_diff l m _ _ (by simpa using h), ← step_xor]; rfl

/-- four bytes of which one isn't 0, from the sum 0 on: not 0 -/
theorem s8_high (x : BitVec 32) (h : x &&& 255#32 = 0#32) : s8 x = x >>> 8 := by
  have hb : ∀ i, i < 8 → x.getLsbD i = false := by
    intro i hi
    have := congrArg (fun y => BitVec.getLsbD y i) h
    simp only [BitVec.getLsbD_and] at this
    have h255 : (255#32).getLsbD i = true := by
      match i, hi with
      | 0, _ => rfl | 1, _ => rfl | 2, _ => rfl | 3, _ => rfl | 4, _ => rfl | 5, _ => rfl | 6, _ => rfl | 7, _ => rfl
    rw [h255] at this
    simpa using this
  have one : ∀ y : BitVec 32, y.getLsbD 0 = false → s1 y = y >>> 1 := by
    intro y hy
    unfold s1
    rcases low_cases y with h' | h'
    · rw [h']; simp
    · exfalso
      have := congrArg (fun y => BitVec.getLsbD y 0) h'
      simp only [BitVec.getLsbD_and, hy] at this
      exact absurd this (by decide)
  have sh : ∀ k, k < 8 → s1 (x >>> k) = x >>> (k + 1) := by
    intro k hk
    rw [one _ (by rw [BitVec.getLsbD_ushiftRight]; exact hb _ hk), BitVec.shiftRight_add]
  unfold s8
  have h0 : s1 x = x >>> 1 := by simpa using sh 0 (by omega)
  rw [h0, sh 1 (by omega), sh 2 (by omega), sh 3 (by omega), sh 4 (by omega), sh 5 (by omega), sh 6 (by omega), sh 7 (by omega)]

theorem shl8 (x : BitVec 32) (h : x.toNat < 2 ^ 24) : (x <<< 8).toNat = x.toNat * 256 := by
  rw [BitVec.toNat_shiftLeft, Nat.shiftLeft_eq]
  exact Nat.mod_eq_of_lt (by omega)
theorem s8_shift (x : BitVec 32) (h : x.toNat < 2 ^ 24) : s8 (x <<< 8) = x := by
  have e : (x <<< 8) &&& 255#32 = 0#32 := by
    apply BitVec.eq_of_toNat_eq
    rw [BitVec.toNat_and, shl8 x h]
    show x.toNat * 256 &&& (2 ^ 8 - 1) = 0
    rw [Nat.and_two_pow_sub_one_eq_mod]
    omega
  rw [s8_high _ e]
  apply BitVec.eq_of_toNat_eq
  rw [BitVec.toNat_ushiftRight, shl8 x h, Nat.shiftRight_eq_div_pow]
  omega
theorem byte_toNat (b : BitVec 8) : (b.setWidth 32).toNat = b.toNat := by
  rw [BitVec.toNat_setWidth]; exact Nat.mod_eq_of_lt (by have := b.isLt; omega)
theorem byte_shift (b : BitVec 8) (x : BitVec 32) (h : x.toNat < 2 ^ 24) (e : b.setWidth 32 = x <<< 8) : b = 0#8 ∧ x = 0#32 := by
  have := congrArg BitVec.toNat e
  rw [byte_toNat, shl8 x h] at this
  have hb := b.isLt
  exact ⟨BitVec.eq_of_toNat_eq (by simp; omega), BitVec.eq_of_toNat_eq (by simp; omega)⟩
theorem back (c x : BitVec 32) (b : BitVec 8) (h : x.toNat < 2 ^ 24) (e : step c b = x) : c = b.setWidth 32 ^^^ x <<< 8 := by
  have e1 : s8 (c ^^^ b.setWidth 32) = s8 (x <<< 8) := by rw [s8_shift x h]; exact e
  have e2 := s8_inj e1
  rw [← e2, BitVec.xor_comm c, ← BitVec.xor_assoc, BitVec.xor_self, BitVec.zero_xor]
theorem back_lt (x : BitVec 32) (b : BitVec 8) (k : Nat) (hk : k ≤ 24) (h : x.toNat < 2 ^ k) : (b.setWidth 32 ^^^ x <<< 8).toNat < 2 ^ (k + 8) := by
  have h24 : x.toNat < 2 ^ 24 := Nat.lt_of_lt_of_le h (Nat.pow_le_pow_right (by omega) hk)
  rw [BitVec.toNat_xor, byte_toNat, shl8 x h24]
  apply Nat.xor_lt_two_pow
  · have := b.isLt; have h2 : 2 ^ 8 ≤ 2 ^ (k + 8) := Nat.pow_le_pow_right (by omega) (by omega); omega
  · rw [Nat.pow_add]; omega
/-- P2.3's heart -/
theorem four (d0 d1 d2 d3 : BitVec 8) (h : run 0#32 [d0, d1, d2, d3] = 0#32) : d0 = 0#8 ∧ d1 = 0#8 ∧ d2 = 0#8 ∧ d3 = 0#8 := by
  simp only [run, List.foldl_cons, List.foldl_nil] at h
  have e3 := back _ _ _ (by decide) h
  rw [show (0#32 : BitVec 32) <<< 8 = 0#32 from rfl] at e3
  have l3 := back_lt 0#32 d3 0 (by omega) (by decide)
  rw [show (0#32 : BitVec 32) <<< 8 = 0#32 from rfl] at l3
  have e2 := back _ _ _ (Nat.lt_of_lt_of_le l3 (by decide)) e3
  have l2 := back_lt _ d2 8 (by omega) l3
  have e1 := back _ _ _ (Nat.lt_of_lt_of_le l2 (by decide)) e2
  have l1 := back_lt _ d1 16 (by omega) l2
  have e0 := back _ _ _ (Nat.lt_of_lt_of_le l1 (by decide)) e1
  have p0 := byte_shift d0 _ (Nat.lt_of_lt_of_le l1 (by decide)) (xor_eq_zero.1 e0.symm)
  have p1 := byte_shift d1 _ (Nat.lt_of_lt_of_le l2 (by decide)) (xor_eq_zero.1 p0.2)
  have p2 := byte_shift d2 _ (Nat.lt_of_lt_of_le l3 (by decide)) (xor_eq_zero.1 p1.2)
  have p3 := byte_shift d3 0#32 (by decide) (xor_eq_zero.1 p2.2)
  exact ⟨p0.1, p1.1, p2.1, p3.1⟩
theorem run_zeros (n : Nat) (c : BitVec 32) : run c (List.replicate n 0#8) = pow n c := by
  induction n generalizing c with
  | zero => rfl
  | succ n ih =>
    rw [List.replicate_succ, run_cons, ih]
    show pow n (s8 (c ^^^ (0#8).setWidth 32)) = _
    rw [show (0#8).setWidth 32 = 0#32 from rfl, BitVec.xor_zero]; rfl
/-- up to four bytes, with zeros behind them -/
theorem few (l : List (BitVec 8)) (hl : l.length ≤ 4) (h : run 0#32 l = 0#32) : ∀ b ∈ l, b = 0#8 := by
  have h4 : run 0#32 (l ++ List.replicate (4 - l.length) 0#8) = 0#32 := by rw [run_append, h, run_zeros, pow_zero]
  match l, hl with
  | [], _ => simp
  | [a], _ => have := four _ _ _ _ h4; simp [this.1]
  | [a, b], _ => have := four _ _ _ _ h4; simp [this.1, this.2.1]
  | [a, b, c], _ => have := four _ _ _ _ h4; simp [this.1, this.2.1, this.2.2.1]
  | [a, b, c, d], _ => have := four _ _ _ _ h4; simp [this.1, this.2.1, this.2.2.1, this.2.2.2]
/-- P2.3: a difference: zeros, up to four bytes, zeros -/
theorem window (n m : Nat) (l : List (BitVec 8)) (hl : l.length ≤ 4) : run 0#32 (List.replicate n 0#8 ++ (l ++ List.replicate m 0#8)) = 0#32 ↔ ∀ b ∈ l, b = 0#8 := by
  rw [run_append, run_zeros, pow_zero, run_append, run_zeros]
  constructor
  · intro h; exact few l hl (pow_inj0 _ _ h)
  · intro h
    have : l = List.replicate l.length 0#8 := List.eq_replicate_iff.2 ⟨rfl, h⟩
    rw [this, run_zeros, pow_zero, pow_zero]
theorem sum_eq (l m : List (BitVec 8)) (h : l.length = m.length) : sum l = sum m ↔ run 0#32 (List.zipWith (· ^^^ ·) l m) = 0#32 := by
  have e := run_diff l m (~~~ 0#32) (~~~ 0#32) h
  rw [BitVec.xor_self] at e
  rw [← e, xor_eq_zero]
  unfold sum
  exact ⟨fun h => by simpa using h, fun h => by rw [h]⟩
end Go.Proofs.Ytdhhpnfdnoaihaa.PCrc

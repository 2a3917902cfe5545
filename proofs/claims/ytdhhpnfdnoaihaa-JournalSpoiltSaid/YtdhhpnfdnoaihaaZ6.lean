import Derived.Test.YtdhhpnfdnoaihaaZ5
/-! M3 -/
/- A text of which up to four bytes in a row are changed. -/
namespace Go.Proofs.Ytdhhpnfdnoaihaa

/-- the text l, changed by the first k of the bytes bys from place at on -/
def oth (l : List UInt8) (at' : Nat) (bys : List UInt8) (k : Nat) : List UInt8 :=
  l.mapIdx (fun i b => if at' ≤ i ∧ i < at' + k then b ^^^ bys.getD (i - at') 0 else b)
theorem oth_length (l : List UInt8) (at' : Nat) (bys : List UInt8) (k : Nat) : (oth l at' bys k).length = l.length := by simp [oth]
theorem oth_get (l : List UInt8) (at' : Nat) (bys : List UInt8) (k i : Nat) (h : i < l.length) :
    (oth l at' bys k)[i]? = some (if at' ≤ i ∧ i < at' + k then l[i] ^^^ bys.getD (i - at') 0 else l[i]) := by
  unfold oth; rw [List.getElem?_mapIdx, List.getElem?_eq_getElem h]; rfl
theorem oth_zero (l : List UInt8) (at' : Nat) (bys : List UInt8) : oth l at' bys 0 = l := by
  apply List.ext_getElem?; intro i
  by_cases h : i < l.length
  · rw [oth_get _ _ _ _ _ h, if_neg (by omega), List.getElem?_eq_getElem h]
  · rw [List.getElem?_eq_none (by rw [oth_length]; omega), List.getElem?_eq_none (by omega)]
theorem oth_at (l : List UInt8) (at' : Nat) (bys : List UInt8) (k : Nat) (h : at' + k < l.length) : (oth l at' bys k)[at' + k]? = some l[at' + k] := by
  rw [oth_get _ _ _ _ _ h, if_neg (by omega)]
theorem oth_succ (l : List UInt8) (at' : Nat) (bys : List UInt8) (k : Nat) (h : at' + k < l.length) :
    oth l at' bys (k + 1) = (oth l at' bys k).set (at' + k) (l[at' + k] ^^^ bys.getD k 0) := by
  apply List.ext_getElem?; intro i
  by_cases hi : i < l.length
  · rw [oth_get _ _ _ _ _ hi, List.getElem?_set]
    by_cases e : at' + k = i
    · subst e
      rw [if_pos rfl, if_pos (by omega), if_pos (by rw [oth_length]; exact hi)]
      rw [show at' + k - at' = k by omega]
    · rw [if_neg e, oth_get _ _ _ _ _ hi]
      congr 1
      by_cases h1 : at' ≤ i ∧ i < at' + k
      · rw [if_pos h1, if_pos (by omega)]
      · rw [if_neg h1, if_neg (by omega)]
  · rw [List.getElem?_eq_none (by rw [oth_length]; omega), List.getElem?_eq_none (by rw [List.length_set, oth_length]; omega)]
theorem oth_zip (l : List UInt8) (at' : Nat) (bys : List UInt8) (k : Nat) (h : at' + k ≤ l.length) (hb : k ≤ bys.length) :
    List.zipWith (· ^^^ ·) (l.map UInt8.toBitVec) ((oth l at' bys k).map UInt8.toBitVec) =
      List.replicate at' 0#8 ++ (((bys.take k).map UInt8.toBitVec) ++ List.replicate (l.length - at' - k) 0#8) := by
  apply List.ext_getElem?; intro i
  rw [List.getElem?_zipWith, List.getElem?_map, List.getElem?_map]
  by_cases hi : i < l.length
  · rw [List.getElem?_eq_getElem hi, oth_get _ _ _ _ _ hi]
    simp only [Option.map_some]
    by_cases h1 : i < at'
    · rw [if_neg (by omega), BitVec.xor_self, List.getElem?_append_left (by simpa using h1), List.getElem?_replicate, if_pos h1]
    · rw [List.getElem?_append_right (by simpa using h1), List.length_replicate]
      by_cases h2 : i < at' + k
      · rw [if_pos ⟨by omega, h2⟩, List.getElem?_append_left (by simp; omega), List.getElem?_map, List.getElem?_take, if_pos (by omega)]
        have h3 : i - at' < bys.length := by omega
        rw [List.getElem?_eq_getElem h3, List.getD_eq_getElem?_getD, List.getElem?_eq_getElem h3]
        simp only [Option.map_some, Option.getD_some, UInt8.toBitVec_xor]
        rw [← BitVec.xor_assoc, BitVec.xor_self, BitVec.zero_xor]
      · rw [if_neg (by omega), BitVec.xor_self, List.getElem?_append_right (by simp; omega), List.getElem?_replicate, if_pos (by simp; omega)]
  · rw [List.getElem?_eq_none (by omega)]
    symm
    rw [Option.map_none, List.getElem?_eq_none (by simp; omega)]
/-- P2.3 -/
theorem oth_sum (l : List UInt8) (at' : Nat) (bys : List UInt8) (k : Nat) (h : at' + k ≤ l.length) (hb : k ≤ bys.length) (h4 : k ≤ 4) :
    csum l = csum (oth l at' bys k) ↔ ∀ b ∈ bys.take k, b = 0 := by
  unfold csum
  rw [PCrc.sum_eq _ _ (by simp [oth_length]), oth_zip l at' bys k h hb, PCrc.window _ _ _ (by simp; omega)]
  constructor
  · intro hx b hm
    have := hx b.toBitVec (List.mem_map.2 ⟨b, hm, rfl⟩)
    exact UInt8.toBitVec_inj.1 this
  · intro hx b hm
    obtain ⟨c, hc, rfl⟩ := List.mem_map.1 hm
    rw [hx c hc]; rfl
/-- are the first k of them noughts? -/
def allZ (bys : List UInt8) (k : Nat) : Bool := (bys.take k).all (· == 0)
theorem allZ_succ (bys : List UInt8) (k : Nat) (h : k < bys.length) : allZ bys (k + 1) = (allZ bys k && bys[k] == 0) := by
  unfold allZ
  rw [List.take_succ_eq_append_getElem h, List.all_append]; simp
theorem oth_same (l : List UInt8) (at' : Nat) (bys : List UInt8) (k : Nat) (h : at' + k ≤ l.length) (hb : k ≤ bys.length) (h4 : k ≤ 4) :
    (((csum (oth l at' bys k)).toNat : Int) == ((csum l).toNat : Int)) = allZ bys k := by
  have e := oth_sum l at' bys k h hb h4
  rw [Bool.eq_iff_iff]
  simp only [allZ, List.all_eq_true, beq_iff_eq]
  rw [← e]
  exact ⟨fun h => (BitVec.eq_of_toNat_eq (by omega)), fun h => by rw [h]⟩
end Go.Proofs.Ytdhhpnfdnoaihaa

/-! P6 -/
/- The plain law of JournalSpoilt. -/
namespace Go.Proofs.Ytdhhpnfdnoaihaa
open Go.RowKit

/-- what is told of each sector -/
def tells (st : DSt) : List (List UInt8) := setAll st.last st.waits
theorem tells_len (st : DSt) : (tells st).length = st.last.length := setAll_length _ _
theorem tells_sec {st : DSt} (h : st.Ok) : ∀ s ∈ tells st, s.length = 64 := setAll_sec _ (fun y hy => (h.wait y hy).2) _ h.sec
theorem setAll_get : ∀ (x : List (Nat × List UInt8)) (l : List (List UInt8)) (i : Nat), i < l.length → (setAll l x).getD i [] = readTo x i (l.getD i [])
  | [], _, _, _ => rfl
  | y :: x, l, i, h => by
    show (setAll (l.set y.1 y.2) x).getD i [] = readTo x i (if y.1 = i then y.2 else l.getD i [])
    rw [setAll_get x _ i (by rw [List.length_set]; exact h)]
    congr 1
    by_cases e : y.1 = i
    · rw [if_pos e, List.getD_eq_getElem?_getD, ← e, List.getElem?_set_self (by omega)]; rfl
    · rw [if_neg e, List.getD_eq_getElem?_getD, List.getElem?_set_ne e, ← List.getD_eq_getElem?_getD]
theorem tells_read {st : DSt} (hc : Calm st) {i : Nat} (hi : i < st.last.length) : st.read (i : Int) = ((tells st)[i]'(by rw [tells_len]; exact hi), 0) := by
  have h1 : ¬ ((i : Int) < 0 ∨ (st.last.length : Int) ≤ (i : Int)) := by omega
  have hm : st.may (i : Int) = 0 := by
    unfold DSt.may
    rw [hc.down, if_neg (by simp), if_neg h1]
  unfold DSt.read
  rw [if_pos hm, Int.toNat_natCast, ← setAll_get _ _ _ hi]
  show ((tells st).getD i [], (0 : Int)) = _
  rw [List.getD_eq_getElem?_getD, List.getElem?_eq_getElem (by rw [tells_len]; exact hi)]; rfl
theorem tells_write {st : DSt} (hc : Calm st) (i : Nat) (d : List UInt8) (hi : i < st.last.length) (hd : d.length = 64) : (st.write (i : Int) d).2 = 0 ∧ tells (st.write (i : Int) d).1 = (tells st).set i d ∧ Calm (st.write (i : Int) d).1 ∧ (st.write (i : Int) d).1.last.length = st.last.length ∧ (st.write (i : Int) d).1.waits.length = st.waits.length + 1 := by
  rw [hc.write i d hi (by omega), pad64_id hd]
  refine ⟨rfl, ?_, ⟨hc.down, hc.armed⟩, rfl, by simp [DSt.put]⟩
  unfold tells
  show setAll st.last (st.waits ++ [(i, d)]) = _
  rw [setAll_snoc]
theorem tells_secs {st : DSt} (hc : Calm st) (fr : Nat) : ∀ k, fr + k ≤ st.last.length → secs st fr k = (((tells st).drop fr).take k).flatten
  | 0, _ => by simp [secs]
  | k + 1, hk => by
    show secs st fr k ++ (st.read ((fr + k : Nat) : Int)).1 = _
    rw [tells_secs hc fr k (by omega), tells_read hc (by omega), List.take_succ_eq_append_getElem (by rw [List.length_drop, tells_len]; omega), List.flatten_append]
    simp
theorem tells_area {st : DSt} (hc : Calm st) (hok : st.Ok) (fr n : Nat) (hn : fr * 64 + n ≤ 64 * st.last.length) : area st fr n = (flat (tells st) fr).take n := by
  unfold area flat
  rw [tells_secs hc fr _ (by omega), ← flat_take _ _ (fun s hs => tells_sec hok s (List.mem_of_mem_drop hs)), List.take_take, Nat.min_eq_left (by omega)]
theorem tells_rest {st : DSt} (h : Rest st) : tells st = st.last := by unfold tells; rw [h.waits]; rfl
/-- one byte of a sector is turned -/
theorem flat_byte : ∀ (l : List (List UInt8)) (i r : Nat) (y : UInt8), (∀ s ∈ l, s.length = 64) → (hi : i < l.length) → r < 64 → (l.set i (l[i].set r y)).flatten = l.flatten.set (64 * i + r) y
  | [], i, r, y, _, hi, _ => by simp at hi
  | s :: l, 0, r, y, h, _, hr => by
    have hs := h s (by simp)
    rw [List.set_cons_zero, List.flatten_cons, List.flatten_cons, List.getElem_cons_zero, List.set_append_left _ _ (by omega)]; simp
  | s :: l, i + 1, r, y, h, hi, hr => by
    have hs := h s (by simp)
    rw [List.set_cons_succ, List.flatten_cons, List.flatten_cons, List.getElem_cons_succ, flat_byte l i r y (fun x hx => h x (by simp [hx])) (by simpa using hi) hr, List.set_append_right _ _ (by omega), hs]
    congr 2; omega
theorem flat_get : ∀ (l : List (List UInt8)) (i r : Nat), (∀ s ∈ l, s.length = 64) → (hi : i < l.length) → r < 64 → l.flatten[64 * i + r]? = l[i][r]?
  | [], i, r, _, hi, _ => by simp at hi
  | s :: l, 0, r, h, _, hr => by
    have hs := h s (by simp)
    rw [List.flatten_cons, List.getElem_cons_zero, List.getElem?_append_left (by omega)]; simp
  | s :: l, i + 1, r, h, hi, hr => by
    have hs := h s (by simp)
    rw [List.flatten_cons, List.getElem_cons_succ, List.getElem?_append_right (by omega), hs, ← flat_get l i r (fun x hx => h x (by simp [hx])) (by simpa using hi) hr]
    congr 1; omega
theorem oth_get2 (l : List UInt8) (at' : Nat) (bys : List UInt8) (k i : Nat) : (oth l at' bys k)[i]? = if at' ≤ i ∧ i < at' + k then l[i]?.map (· ^^^ bys.getD (i - at') 0) else l[i]? := by
  unfold oth
  rw [List.getElem?_mapIdx]
  cases l[i]? with
  | none => simp
  | some x => by_cases h : at' ≤ i ∧ i < at' + k <;> simp [h]
theorem oth_mid (X b Y : List UInt8) (at' : Nat) (bys : List UInt8) (m : Nat) (h : at' + m ≤ b.length) : oth (X ++ b ++ Y) (X.length + at') bys m = X ++ oth b at' bys m ++ Y := by
  apply List.ext_getElem?; intro i
  rw [oth_get2]
  by_cases h1 : i < X.length
  · rw [if_neg (by omega), List.append_assoc, List.append_assoc, List.getElem?_append_left h1, List.getElem?_append_left h1]
  · by_cases h2 : i < X.length + b.length
    · rw [List.getElem?_append_left (l₁ := X ++ b) (by rw [List.length_append]; omega), List.getElem?_append_left (l₁ := X ++ oth b at' bys m) (by rw [List.length_append, oth_length]; omega),
        List.getElem?_append_right (l₁ := X) (l₂ := b) (by omega), List.getElem?_append_right (l₁ := X) (l₂ := oth b at' bys m) (by omega), oth_get2]
      by_cases hc : at' ≤ i - X.length ∧ i - X.length < at' + m
      · rw [if_pos hc, if_pos (by omega), show i - (X.length + at') = i - X.length - at' by omega]
      · rw [if_neg hc, if_neg (by omega)]
    · rw [if_neg (by omega), List.getElem?_append_right (l₁ := X ++ oth b at' bys m) (by rw [List.length_append, oth_length]; omega), List.getElem?_append_right (l₁ := X ++ b) (by rw [List.length_append]; omega)]
      simp only [List.length_append, oth_length]
theorem oth_take (l : List UInt8) (at' : Nat) (bys : List UInt8) (m n : Nat) (h : at' + m ≤ n) : (oth l at' bys m).take n = oth (l.take n) at' bys m := by
  by_cases hn : n ≤ l.length
  · have e : l = [] ++ l.take n ++ l.drop n := by simp
    have h2 := oth_mid [] (l.take n) (l.drop n) at' bys m (by rw [List.length_take]; omega)
    rw [← e] at h2
    simp only [List.length_nil, Nat.zero_add, List.nil_append] at h2
    rw [h2, List.take_append_of_le_length (by rw [oth_length, List.length_take]; omega), List.take_of_length_le (by rw [oth_length, List.length_take]; omega)]
  · rw [List.take_of_length_le (by rw [oth_length]; omega), List.take_of_length_le (by omega)]
theorem oth_id (l : List UInt8) (at' : Nat) (bys : List UInt8) (m : Nat) (h : allZ bys m = true) : oth l at' bys m = l := by
  apply List.ext_getElem?; intro i
  by_cases hi : i < l.length
  · rw [oth_get _ _ _ _ _ hi, List.getElem?_eq_getElem hi]
    by_cases hc : at' ≤ i ∧ i < at' + m
    · rw [if_pos hc]
      have hz : bys.getD (i - at') 0 = 0 := by
        rw [List.getD_eq_getElem?_getD]
        by_cases hb : i - at' < bys.length
        · rw [List.getElem?_eq_getElem hb]
          unfold allZ at h
          rw [List.all_eq_true] at h
          have hmem : bys[i - at'] ∈ bys.take m := by
            rw [List.mem_take_iff_getElem]
            exact ⟨i - at', by omega, rfl⟩
          simpa using h _ hmem
        · rw [List.getElem?_eq_none (by omega)]; rfl
      rw [hz]; simp
    · rw [if_neg hc]
  · rw [List.getElem?_eq_none (by rw [oth_length]; omega), List.getElem?_eq_none (by omega)]
theorem frames_app (a b : List (List UInt8)) : frames (a ++ b) = frames a ++ frames b := by simp [frames]
theorem frames_cons (b : List UInt8) (l : List (List UInt8)) : frames (b :: l) = frameL b ++ frames l := by simp [frames]
theorem split_pre : ∀ (l : List (List UInt8)) (R : List UInt8) (n : Nat), (∀ b ∈ l, b.length < 9223372036854775808) → (frames l ++ R).length ≤ n → jsplit n (frames l ++ R) = (jsplit (n - l.length) R).map (l ++ ·)
  | [], R, n, _, _ => by simp [frames]
  | b :: l, R, n, h, hn => by
    have e : frames (b :: l) ++ R = frameL b ++ (frames l ++ R) := by simp [frames]
    have hb := h b (by simp)
    rw [e] at hn ⊢
    rw [List.length_append, frameL_len] at hn
    obtain ⟨m, rfl⟩ : ∃ m, n = m + 1 := ⟨n - 1, by omega⟩
    rw [jsplit_step (by rw [List.length_append, frameL_len]; omega) (frame_fine b _ hb), frame_jlen b _ hb, Int.toNat_natCast, frame_body, ← List.drop_drop, frame_drop, List.drop_left,
      split_pre l R m (fun x hx => h x (by simp [hx])) (by omega), Option.map_map, List.length_cons, show m + 1 - (l.length + 1) = m - l.length by omega]
    rfl
/-- frames of which one's own bytes were turned -/
theorem open_spoilt (l : List (List UInt8)) (h : ∀ b ∈ l, b.length < 9223372036854775808) (k : Nat) (hk : k < l.length) (at' : Nat) (bys : List UInt8) (m : Nat) (hm : at' + m ≤ l[k].length) (hb : m ≤ bys.length) (h4 : m ≤ 4) (hz : allZ bys m = false) (ct : Nat) :
    jopen (oth (frames l) ((frames (l.take k)).length + 16 + at') bys m) ct = none := by
  have e1 : frames l = (frames (l.take k) ++ (be8 (l[k].length : Int) ++ be8 ((csum l[k]).toNat : Int))) ++ l[k] ++ frames (l.drop (k + 1)) := by
    have e : l.take k ++ (l[k] :: l.drop (k + 1)) = l := by rw [← List.drop_eq_getElem_cons hk, List.take_append_drop]
    have e0 := congrArg frames e
    rw [← e0, frames_app, frames_cons]
    unfold frameL
    simp only [List.append_assoc]
  have hX : (frames (l.take k) ++ (be8 (l[k].length : Int) ++ be8 ((csum l[k]).toNat : Int))).length = (frames (l.take k)).length + 16 := by simp [be8_len]
  have hbk := h _ (List.getElem_mem hk)
  rw [e1, ← hX, oth_mid _ _ _ _ _ _ hm]
  have hol := oth_length l[k] at' bys m
  have hne : ¬ csum l[k] = csum (oth l[k] at' bys m) := fun e => by
    have := (oth_sum l[k] at' bys m hm hb h4).1 e
    unfold allZ at hz
    rw [List.all_eq_false] at hz
    obtain ⟨x, hx, hx0⟩ := hz
    exact hx0 (by simp [this x hx])
  generalize oth l[k] at' bys m = b' at *
  generalize l[k] = b at *
  have hR : ¬ jfine (be8 (b.length : Int) ++ be8 ((csum b).toNat : Int) ++ (b' ++ frames (l.drop (k + 1)))) := fun hf => by
    obtain ⟨_, _, _, h4'⟩ := hf
    have e2 : jlen (be8 (b.length : Int) ++ be8 ((csum b).toNat : Int) ++ (b' ++ frames (l.drop (k + 1)))) = (b.length : Int) := by
      unfold jlen
      rw [List.append_assoc, List.take_append_of_le_length (by rw [be8_len]; omega), List.take_of_length_le (by rw [be8_len]; omega), be_back _ (by omega), i64_small _ hbk]
    have hq := (csum b).isLt
    have e3 : jsum (be8 (b.length : Int) ++ be8 ((csum b).toNat : Int) ++ (b' ++ frames (l.drop (k + 1)))) = ((csum b).toNat : Int) := by
      unfold jsum
      rw [List.append_assoc, List.drop_append_of_le_length (by rw [be8_len]; omega), show (be8 (b.length : Int)).drop 8 = [] from rfl, List.nil_append,
        List.take_append_of_le_length (by rw [be8_len]; omega), List.take_of_length_le (by rw [be8_len]; omega), be_back _ (by omega), i64_small _ (by omega)]
    have e4 : jbody (be8 (b.length : Int) ++ be8 ((csum b).toNat : Int) ++ (b' ++ frames (l.drop (k + 1)))) b.length = b' := by
      unfold jbody
      rw [List.drop_append_of_le_length (by simp [be8_len]), show (be8 (b.length : Int) ++ be8 ((csum b).toNat : Int)).drop 16 = [] from rfl, List.nil_append, ← hol, List.take_left]
    rw [e2, e3, Int.toNat_natCast, e4] at h4'
    exact hne (BitVec.eq_of_toNat_eq (by omega))
  have e5 : frames (l.take k) ++ (be8 (b.length : Int) ++ be8 ((csum b).toNat : Int)) ++ b' ++ frames (l.drop (k + 1)) = frames (l.take k) ++ (be8 (b.length : Int) ++ be8 ((csum b).toNat : Int) ++ (b' ++ frames (l.drop (k + 1)))) := by simp
  rw [e5]
  unfold jopen
  rw [split_pre _ _ _ (fun x hx => h x (List.mem_of_mem_take hx)) (Nat.le_refl _), jsplit_bad (by rw [List.length_append, List.length_append, be8_len]; omega) hR]
  rfl
end Go.Proofs.Ytdhhpnfdnoaihaa

/-! J13 -/
/- Rows of numbers of the walk's own; what the walk of JournalSpoilt keeps. -/
namespace Go.Proofs.Ytdhhpnfdnoaihaa
open Go.RowKit

theorem s_und65 : Try.prog.underlying 65 = some (.slice 3) := by kernel_rfl
theorem s_info3 : (Try.prog.info? 3).map (fun i => (i.zero, i.size, i.bytes)) = some (some (.int .i64 0), 1, 8) := by kernel_rfl
def N64 (n : Nat) : Value := .int .i64 (n : Int)
/-- a row of numbers -/
def NRow (w : World) (base : Nat) (v : Value) (ns : List Nat) : Prop := w.ownsRow base 3 1 v ns.length (ns.map N64)
theorem NRow.nil (w : World) (base : Nat) : NRow w base (.slice none 0 0) [] := World.ownsRow_nil _ _ _ _
theorem NRow.kept {w w' : World} {base : Nat} {v : Value} {ns : List Nat} (h : NRow w base v ns) {S : Nat → Prop} (hm : Mod S w w') (hS : ∀ k, v.ownBlock = some k → ¬ S k) : NRow w' base v ns := ownsRow_kept h hm hS
theorem NRow.shape {w : World} {base : Nat} {v : Value} {ns : List Nat} (h : NRow w base v ns) : ∃ a c, v = .slice a ns.length c := by
  rcases h.2 with ⟨rfl, h0⟩ | ⟨g, cap, cur, rfl, _⟩
  · exact ⟨none, 0, by rw [h0]⟩
  · exact ⟨_, cap, rfl⟩
theorem NRow.cell {w : World} {base : Nat} {a : Option Addr} {n c : Nat} {ns : List Nat} (h : NRow w base (.slice a n c) ns) {k : Nat} (hk : k < ns.length) : ∃ g, a = some ⟨g, 0, none⟩ ∧ base ≤ g ∧ w.cell? ⟨g, k, none⟩ = some (.int .i64 (ns[k] : Int)) := by
  have hlt := World.ownsRow.lt h
  obtain ⟨g, cap, rest, e, _, hb, _⟩ := OwnR.open1 (S := fun _ => True) ⟨row_base h (Nat.zero_le _), fun _ _ => trivial⟩ (by omega)
  injection e with e1 e2 e3
  refine ⟨g, e1, (hlt g (by rw [e1]; rfl)).1, ?_⟩
  exact hb.is (by rw [List.getElem?_append_left (by simpa using hk), List.getElem?_map, List.getElem?_eq_getElem hk]; rfl)
theorem NRow.snoc {w1 w' : World} {base : Nat} {v v' : Value} {ns : List Nat} {n : Nat} (h1 : NRow w1 base v ns) (g2 : w'.ownsRow 0 3 1 v' (ns.length + 1) (ns.map N64 ++ [.int .i64 (n : Int)]))
    (g4 : ∀ g, v'.ownBlock = some g → v.ownBlock = some g ∨ (w1.heap.size ≤ g ∧ g < w'.heap.size)) (hb : base ≤ w1.heap.size) : NRow w' base v' (ns ++ [n]) := by
  have hb' : ∀ g, v'.ownBlock = some g → base ≤ g := fun g hg => by
    rcases g4 g hg with h | h
    · exact (World.ownsRow.lt h1 g h).1
    · omega
  unfold NRow
  rw [List.length_append, List.map_append]
  refine ⟨g2.1, ?_⟩
  rcases g2.2 with h | ⟨g, cap, cur, rfl, _, r⟩
  · exact .inl h
  · exact .inr ⟨g, cap, cur, rfl, hb' g rfl, r⟩
/-- where each frame's own bytes begin -/
def startsL (l : List (List UInt8)) : List Nat := (List.range l.length).map (fun i => (frames (l.take i)).length + 16)
theorem startsL_len (l : List (List UInt8)) : (startsL l).length = l.length := by simp [startsL]
theorem startsL_snoc (l : List (List UInt8)) (b : List UInt8) : startsL (l ++ [b]) = startsL l ++ [(frames l).length + 16] := by
  unfold startsL
  rw [List.length_append, List.length_singleton, List.range_succ, List.map_append, List.map_singleton, List.take_left]
  congr 1
  apply List.map_congr_left
  intro i hi
  rw [List.take_append_of_le_length (by have := List.mem_range.1 hi; omega)]
def sizesL (l : List (List UInt8)) : List Nat := l.map List.length
/-- the first loop: two rows of numbers, the frames laid -/
def spRel (w1 wr : World) (p j : Nat) (v1 v2 : Value) (done : List (List UInt8)) : Prop :=
  ∃ S st, Live w1 wr S p st ∧ Rest st ∧ st.last.length = 100 ∧ IsJ wr j p 0 100 ((frames done).length : Nat) (done.length : Nat) ∧ ¬ S j ∧ w1.heap.size ≤ j ∧ NRow wr w1.heap.size v1 (startsL done) ∧ NRow wr w1.heap.size v2 (sizesL done) ∧
    (∀ g, v1.ownBlock = some g → ¬ S g ∧ g ≠ j ∧ ¬ v2.ownBlock = some g) ∧ (∀ g, v2.ownBlock = some g → ¬ S g ∧ g ≠ j) ∧
    (flat st.last 0).take (frames done).length = frames done ∧ (∀ l ∈ done, l.length ≤ 100) ∧ (frames done).length ≤ 116 * done.length
/-- the second loop: the bytes turned so far -/
def spRel2 (w1 wr : World) (p j en n : Nat) (v1 v2 : Value) (done : List (List UInt8)) (F : List UInt8) (P0 : Nat) (bys : List UInt8) (i : Nat) : Prop :=
  ∃ S st, Live w1 wr S p st ∧ Calm st ∧ st.last.length = 100 ∧ st.waits.length ≤ i ∧ flat (tells st) 0 = oth F P0 bys i ∧ IsJ wr j p 0 100 (en : Nat) (n : Nat) ∧ ¬ S j ∧ NRow wr w1.heap.size v1 (startsL done) ∧ NRow wr w1.heap.size v2 (sizesL done) ∧
    (∀ g, v1.ownBlock = some g → ¬ S g) ∧ (∀ g, v2.ownBlock = some g → ¬ S g)
theorem flat_zero (l : List (List UInt8)) : flat l 0 = l.flatten := by simp [flat]
/-- one byte more is turned -/
theorem sp_step {st : DSt} (hc : Calm st) (hok : st.Ok) (hl : st.last.length = 100) {F : List UInt8} {P0 : Nat} {bys : List UInt8} {i : Nat} (hf : flat (tells st) 0 = oth F P0 bys i) {pl sc r : Nat} (hpl : pl = P0 + i) (hlt : pl < 6400) (hsc : sc = pl / 64) (hr : r = pl % 64) :
    ∃ s x, st.read (sc : Int) = (s, 0) ∧ s.length = 64 ∧ s[r]? = some x ∧ (st.write (sc : Int) (s.set r (x ^^^ bys.getD i 0))).2 = 0 ∧ Calm (st.write (sc : Int) (s.set r (x ^^^ bys.getD i 0))).1 ∧
      (st.write (sc : Int) (s.set r (x ^^^ bys.getD i 0))).1.last.length = 100 ∧ (st.write (sc : Int) (s.set r (x ^^^ bys.getD i 0))).1.waits.length = st.waits.length + 1 ∧ flat (tells (st.write (sc : Int) (s.set r (x ^^^ bys.getD i 0))).1) 0 = oth F P0 bys (i + 1) := by
  have hi : sc < st.last.length := by omega
  have hi' : sc < (tells st).length := by rw [tells_len]; exact hi
  have hs : ((tells st)[sc]).length = 64 := tells_sec hok _ (List.getElem_mem hi')
  have hFl : F.length = 6400 := by
    have := congrArg List.length hf
    rw [oth_length, flat_zero, flat_sum _ (tells_sec hok), tells_len, hl] at this
    omega
  have hr' : r < ((tells st)[sc]).length := by omega
  have hx : ((tells st)[sc])[r]? = some (((tells st)[sc])[r]) := List.getElem?_eq_getElem hr'
  have hfx := flat_get (tells st) sc r (tells_sec hok) hi' (by omega)
  rw [hx, ← flat_zero, hf, show 64 * sc + r = P0 + i by omega, oth_at _ _ _ _ (by omega)] at hfx
  have hxe : F[P0 + i]'(by omega) = ((tells st)[sc])[r] := by injection hfx
  have hd : (((tells st)[sc]).set r (((tells st)[sc])[r] ^^^ bys.getD i 0)).length = 64 := by rw [List.length_set, hs]
  obtain ⟨w1, w2, w3, w4, w5⟩ := tells_write hc sc (((tells st)[sc]).set r (((tells st)[sc])[r] ^^^ bys.getD i 0)) hi hd
  refine ⟨(tells st)[sc], ((tells st)[sc])[r], tells_read hc hi, hs, hx, w1, w3, by rw [w4, hl], w5, ?_⟩
  rw [w2, flat_zero, flat_byte _ _ _ _ (tells_sec hok) hi' (by omega), ← flat_zero, hf, oth_succ _ _ _ _ (by omega), hxe]
  congr 1; omega
/-- what is told at the end -/
theorem sp_end {st : DSt} (hc : Calm st) (hok : st.Ok) (hl : st.last.length = 100) {F : List UInt8} {P0 : Nat} {bys : List UInt8} {m en : Nat} (hf : flat (tells st) 0 = oth F P0 bys m) (done : List (List UInt8)) (hF : F.take en = frames done) (hen : en ≤ 6400)
    (hdl : ∀ l ∈ done, l.length ≤ 100) {kk at' : Nat} (hk : kk < done.length) (hP : P0 = (frames (done.take kk)).length + 16 + at') (hm : at' + m ≤ done[kk].length) (hb : m ≤ bys.length) (h4 : m ≤ 4) (hpe : P0 + m ≤ en) :
    jopen (area st 0 en) done.length = if allZ bys m = true then some done else none := by
  rw [tells_area hc hok 0 en (by omega), hf, oth_take _ _ _ _ _ hpe, hF]
  cases hz : allZ bys m
  · rw [hP, open_spoilt done (fun b hb => by have := hdl b hb; omega) kk hk at' bys m hm hb h4 hz]; rfl
  · rw [oth_id _ _ _ _ hz, open_frames done (fun b hb => by have := hdl b hb; omega)]; rfl
end Go.Proofs.Ytdhhpnfdnoaihaa

/-! X1 -/
/- '==' between arrays of four numbers. -/
namespace Go.Proofs.Ytdhhpnfdnoaihaa
section
variable {P : Program} (w : World)
theorem run_equalIn_arr4 (d : Nat) (t e : TypeId) (k : IntKind) (a0 a1 a2 a3 b0 b1 b2 b3 : Int) (ht : P.underlying t = some (.array 4 e)) (he : P.underlying e = some (.int k)) (hs : (P.info? e).map (·.size) = some 1) :
    (Op.equalIn (d + 2) t (.agg #[.int k a0, .int k a1, .int k a2, .int k a3]) (.agg #[.int k b0, .int k b1, .int k b2, .int k b3])).run P w = .ok ((a0 == b0) && ((a1 == b1) && ((a2 == b2) && (a3 == b3)))) w := by
  obtain ⟨i, hi, hsz⟩ : ∃ i, P.info? e = some i ∧ i.size = 1 := by
    cases hq : P.info? e with
    | none => simp [hq] at hs
    | some i => exact ⟨i, rfl, by simpa [hq] using hs⟩
  rw [Op.equalIn]
  simp only [Sem.run_bind, run_underlying ht, Result.andThen_ok]
  simp [sizeOf, typeInfo, hi, hsz, Std.Legacy.Range.forIn_eq_forIn_range', List.range', part, isAgg, run_underlying he, Op.equalIn]
  by_cases h0 : a0 = b0
  · by_cases h1 : a1 = b1
    · by_cases h2 : a2 = b2
      · by_cases h3 : a3 = b3
        · simp [h0, h1, h2, h3]
        · simp [h0, h1, h2, h3]
      · simp [h0, h1, h2]
    · simp [h0, h1]
  · simp [h0]
end
end Go.Proofs.Ytdhhpnfdnoaihaa

/-! W5 -/
/- The walk of CrcFinds. -/
namespace Go.Proofs.Ytdhhpnfdnoaihaa
open Go.RowKit

theorem v_und33 : Try.prog.underlying 33 = some (.array 4 5) := by kernel_rfl
theorem v_cells33 : Try.prog.cellsOf 33 = 4 := by kernel_rfl
theorem trod_byte0 {H : Type} {enc : TypeId × Value → H} {w : World} {n : Nat} {cs : List Value} {x : DataW H × List MemPlace} (h : Rdg enc w n 5 cs = some x) : ∃ b, EByte cs b := by
  obtain ⟨z, rfl, _, hw⟩ := DataW.trod_int v_und5 h
  have hb : 0 ≤ z ∧ z ≤ 255 := by simpa [Lit.wf, IntKind.min, IntKind.max, IntKind.signed, IntKind.bits] using hw
  refine ⟨UInt8.ofNat z.toNat, ?_⟩
  unfold EByte B
  have : (UInt8.ofNat z.toNat).toNat = z.toNat := by rw [UInt8.toNat_ofNat']; omega
  rw [this, Int.toNat_of_nonneg hb.1]
/-- four bytes by value -/
def VArr4 (v : Value) (q : UInt8 × UInt8 × UInt8 × UInt8) : Prop := v = .agg #[B q.1, B q.2.1, B q.2.2.1, B q.2.2.2]
set_option maxRecDepth 100000 in
theorem view_arr4 {H : Type} {enc : TypeId × Value → H} {w : World} {n : Nat} {v : Value} {d : DataW H} {ps : List MemPlace} {r : Reach} {b0 : Nat} (hv : Value.okWide Try.prog w r b0 33 v)
    (h : Rdg enc w n 33 v.cells.toList = some (d, ps)) (_ : Small 33 d) : ∃ q, VArr4 v q := by
  simp only [Value.okWide, v_und33] at hv
  obtain ⟨cs, rfl, hs, _⟩ := hv
  rw [v_cells33] at hs
  obtain ⟨xs, m, _, _, _, _, hx⟩ := DataW.trod_array v_und33 h
  have key : ∀ i, i < 4 → ∃ b : UInt8, cs[i]? = some (B b) := by
    intro i hi
    have h1 := hx i hi
    rw [v_cells5, Nat.mul_one] at h1
    have hlen : i < xs.length := by omega
    rw [List.getElem?_eq_getElem hlen] at h1
    obtain ⟨b, hb⟩ := trod_byte0 h1
    refine ⟨b, ?_⟩
    have h2 := congrArg (fun l => l[0]?) hb
    simp only [Value.cells] at h2
    rw [List.getElem?_take, if_pos (by omega), List.getElem?_drop] at h2
    simpa using h2
  obtain ⟨q0, h0⟩ := key 0 (by omega)
  obtain ⟨q1, h1⟩ := key 1 (by omega)
  obtain ⟨q2, h2⟩ := key 2 (by omega)
  obtain ⟨q3, h3⟩ := key 3 (by omega)
  refine ⟨(q0, q1, q2, q3), ?_⟩
  unfold VArr4
  congr 1
  apply Array.ext_getElem?
  intro i
  match i with
  | 0 => rw [h0]; rfl
  | 1 => rw [h1]; rfl
  | 2 => rw [h2]; rfl
  | 3 => rw [h3]; rfl
  | i + 4 => rw [Array.getElem?_eq_none (by omega), Array.getElem?_eq_none (by simp)]
def findRel (at' : Nat) (l : List UInt8) (bys : List UInt8) (g : Nat) (rest : List Value) (w2 wr : World) (k : Nat) (x : Value) : Prop :=
  k ≤ 4 ∧ at' + k ≤ l.length ∧ Blk wr g 5 ((oth l at' bys k).map B ++ rest) ∧ x = .bool (allZ bys k) ∧ Mod (· = g) w2 wr
theorem find_cells {at' : Nat} {l bys : List UInt8} {g bb : Nat} {rest : List Value} {w2 wr : World} {k : Nat} {x : Value} (h : findRel at' l bys g rest w2 wr k x) (hk : k < 4) (hl : at' + k < l.length)
    {q0 q1 q2 q3 : UInt8} (hb : Blk w2 bb 33 ([q0, q1, q2, q3].map B)) (hne : bb ≠ g) :
    wr.cell? ⟨g, at' + k, none⟩ = some (.int .u8 (l[at' + k].toNat : Int)) ∧ wr.frozen? ⟨g, at' + k, none⟩ = false ∧
    wr.cell? ⟨bb, k, none⟩ = some (.int .u8 ([q0, q1, q2, q3][k].toNat : Int)) ∧ ∀ X, (wr.setCell ⟨g, at' + k, none⟩ X).cell? ⟨bb, k, none⟩ = some (.int .u8 ([q0, q1, q2, q3][k].toNat : Int)) := by
  obtain ⟨_, _, hblk, _, hm⟩ := h
  have h3 : wr.cell? ⟨bb, k, none⟩ = some (.int .u8 ([q0, q1, q2, q3][k].toNat : Int)) := by
    rw [(hm.blk hb hne).cell]
    match k, hk with
    | 0, _ => rfl
    | 1, _ => rfl
    | 2, _ => rfl
    | 3, _ => rfl
  refine ⟨?_, hblk.free _, h3, fun X => ?_⟩
  · rw [hblk.cell, List.getElem?_append_left (by simpa [oth_length] using hl), List.getElem?_map, oth_at l at' bys k hl]; rfl
  · rw [World.cell?_setCell_other _ _ _ _ (fun e => hne (congrArg Addr.block e).symm)]; exact h3
theorem byte_zero (b : UInt8) : ((b.toNat : Int) == 0) = (b == 0) := by
  rw [Bool.eq_iff_iff]
  simp only [beq_iff_eq]
  exact ⟨fun h => UInt8.toNat_inj.1 (by simp; omega), fun h => by rw [h]; rfl⟩
theorem xor8 (a b : UInt8) : bits .xor .u8 (a.toNat : Int) (b.toNat : Int) = ((a ^^^ b).toNat : Int) := by
  rw [u8_xor_nat _ _ a.toNat_lt b.toNat_lt, UInt8.toNat_xor]
theorem find_step {at' : Nat} {l : List UInt8} {g : Nat} {rest : List Value} {w2 wr : World} {k : Nat} {x : Value} {q0 q1 q2 q3 : UInt8} (h : findRel at' l [q0, q1, q2, q3] g rest w2 wr k x) (hk : k < 4) (hl : at' + k < l.length)
    {lb qb : UInt8} {z : Bool} (hlb : l[at' + k] = lb) (hqb : [q0, q1, q2, q3][k] = qb) (hz : allZ [q0, q1, q2, q3] k = z) (b : Bool) (hb : b = (z && qb == 0)) :
    findRel at' l [q0, q1, q2, q3] g rest w2 (wr.setCell ⟨g, at' + k, none⟩ (.int .u8 (bits .xor .u8 (lb.toNat : Int) (qb.toNat : Int)))).drew (k + 1) (.bool b) := by
  obtain ⟨_, _, hblk, _, hm⟩ := h
  refine ⟨by omega, by omega, ?_, ?_, (Mod.set (S := fun i => i = g) hm (.inl rfl) _).drew⟩
  · rw [oth_succ l at' _ k hl, hlb]
    have hq : [q0, q1, q2, q3].getD k 0 = qb := by rw [← hqb]; simp [hk]
    rw [hq, List.map_set]
    have := (hblk.set (at' + k) (.int .u8 (bits .xor .u8 (lb.toNat : Int) (qb.toNat : Int)))).drew
    rw [xor8] at this ⊢
    rw [List.set_append_left _ _ (by simpa [oth_length] using hl)] at this
    exact this
  · rw [hb, allZ_succ _ k (by simpa using hk), hz, hqb]
theorem find_end {at' : Nat} {l : List UInt8} {g : Nat} {rest : List Value} {w2 wr : World} {k : Nat} {x : Value} {q0 q1 q2 q3 : UInt8} (h : findRel at' l [q0, q1, q2, q3] g rest w2 wr k x) (_ : ¬ (k < 4 ∧ at' + k < l.length)) :
    Rd wr (some ⟨g, 0, none⟩) (oth l at' [q0, q1, q2, q3] k) ∧ (((csum (oth l at' [q0, q1, q2, q3] k)).toNat : Int) == ((csum l).toNat : Int)) = allZ [q0, q1, q2, q3] k ∧ Mod (· = g) w2 wr := by
  obtain ⟨h4, hl, hblk, _, hm⟩ := h
  refine ⟨.inr ⟨g, 0, rfl, fun i hi => ?_⟩, oth_same l at' _ k hl (by simpa using h4) h4, hm⟩
  rw [Nat.zero_add, hblk.cell, List.getElem?_append_left hi]
theorem size5 : (Try.prog.info? 5).map (·.size) = some 1 := by kernel_rfl
theorem eq_zeros (q0 q1 q2 q3 : UInt8) (w : World) :
    (Op.equalIn 10000 33 (.agg #[.int .u8 (q0.toNat : Int), .int .u8 (q1.toNat : Int), .int .u8 (q2.toNat : Int), .int .u8 (q3.toNat : Int)]) (.agg #[.int .u8 0, .int .u8 0, .int .u8 0, .int .u8 0])).run Try.prog w =
      .ok (((q0.toNat : Int) == 0) && (((q1.toNat : Int) == 0) && (((q2.toNat : Int) == 0) && ((q3.toNat : Int) == 0)))) w :=
  run_equalIn_arr4 w 9998 33 5 .u8 _ _ _ _ _ _ _ _ v_und33 v_und5 size5
set_option maxRecDepth 100000 in
set_option maxHeartbeats 1600000 in
theorem CrcFinds_walk (w : World) (v0 : Value) (l0 : List UInt8) (w0 : VBytes w v0 l0) (a1 : Int) (w1 : (Lit.int .i64 a1).wf = true) (v2 : Value) (q : UInt8 × UInt8 × UInt8 × UInt8) (w2 : VArr4 v2 q) :
    Calls Try.prog 6 #[v0, .int .i64 a1, v2] w fun e w' => e = .returned (.bool true) ∧ Below w.heap.size w w' := by
  have hp0 := w0.part
  obtain ⟨a0, c0, rfl, hl0, hrw⟩ := w0
  have HRW := hid hrw
  clear hrw
  obtain ⟨q0, q1, q2, q3⟩ := q
  unfold VArr4 at w2
  subst w2
  have HP0 := hid hp0
  clear hp0
  by_cases hneg : a1 < 0
  · go_enter Try.func6, Try.ntmps6
    go_wp2_with fail
    refine (awake2_any _).mono ?_
    rintro e w' ⟨rfl, hm⟩
    have HM := hid ((Mod.refl None w).alloc (.cells #[B q0, B q1, B q2, B q3] 33) |>.trans hm); clear hm
    go_wp2_with fail
    refine (awake2_any _).mono ?_
    rintro e w'' ⟨rfl, hm⟩
    have HM2 := hid hm; clear hm
    go_wp2_with fail
    go_ret
    exact ⟨rfl, (HM.out.trans HM2.out).below _ (Nat.le_refl _) (fun _ h => h.elim)⟩
  obtain ⟨at', rfl⟩ : ∃ n : Nat, a1 = n := ⟨a1.toNat, by omega⟩
  have hneg' : ¬ ((at' : Int) < 0) := by omega
  clear w1 hneg
  by_cases hge : l0.length ≤ at'
  · have hge' : (l0.length : Int) ≤ (at' : Int) := by omega
    go_enter Try.func6, Try.ntmps6
    go_wp2_with fail
    refine (awake2_any _).mono ?_
    rintro e w' ⟨rfl, hm⟩
    have HM := hid ((Mod.refl None w).alloc (.cells #[B q0, B q1, B q2, B q3] 33) |>.trans hm); clear hm
    go_wp2_with fail
    refine (awake2_any _).mono ?_
    rintro e w'' ⟨rfl, hm⟩
    have HM2 := hid hm; clear hm
    go_wp2_with fail
    go_ret
    exact ⟨rfl, (HM.out.trans HM2.out).below _ (Nat.le_refl _) (fun _ h => h.elim)⟩
  have hge' : ¬ ((l0.length : Int) ≤ (at' : Int)) := by omega
  go_enter Try.func6, Try.ntmps6
  go_wp2_with fail
  generalize hwb : w.alloc _ = wb
  have hbk : Blk wb w.heap.size 33 [B q0, B q1, B q2, B q3] := by subst hwb; exact Blk.new _ _ _
  have hmb : Mod None w wb := by subst hwb; exact (Mod.refl None w).alloc _
  have HP1 := hid (HP0.out.mod hmb (fun _ _ h => h))
  clear hwb HP0
  refine (awake2_any _).mono ?_
  rintro e w1 ⟨rfl, hm⟩
  have HK := hid (hm.blk hbk (fun h => h))
  have HM := hid (hmb.trans hm)
  have HP := hid (HP1.out.mod hm (fun _ _ h => h))
  clear hm hmb hbk HP1
  have g0 := HK.out.cell 0
  have g1 := HK.out.cell 1
  have g2 := HK.out.cell 2
  have g3 := HK.out.cell 3
  simp only [List.getElem?_cons_zero, List.getElem?_cons_succ, B] at g0 g1 g2 g3
  have heq := eq_zeros q0 q1 q2 q3
  by_cases hz : (((q0.toNat : Int) == 0) && (((q1.toNat : Int) == 0) && (((q2.toNat : Int) == 0) && ((q3.toNat : Int) == 0)))) = true
  · simp only [hz] at heq
    clear hz
    go_wp2_with fail
    refine (awake2_any _).mono ?_
    rintro e w'' ⟨rfl, hm⟩
    have HM2 := hid hm; clear hm
    go_wp2_with fail
    go_ret
    exact ⟨rfl, (HM.out.trans HM2.out).below _ (Nat.le_refl _) (fun _ h => h.elim)⟩
  simp only [Bool.not_eq_true] at hz
  simp only [hz] at heq
  clear hz
  by_cases hbig : 1048576 < l0.length
  · have hbig' : (1048576 : Int) < (l0.length : Int) := by omega
    clear hl0
    go_wp2_with fail
    refine (awake2_any _).mono ?_
    rintro e w'' ⟨rfl, hm⟩
    have HM2 := hid hm; clear hm
    go_wp2_with fail
    go_ret
    exact ⟨rfl, (HM.out.trans HM2.out).below _ (Nat.le_refl _) (fun _ h => h.elim)⟩
  have hbig' : ¬ (1048576 : Int) < (l0.length : Int) := by omega
  have hrd : Rd w1 a0 l0 := by obtain ⟨_, _, e, h, _⟩ := HP.out; cases e; exact h
  have HRD := hid hrd
  clear hl0 hrd
  go_wp2_with (at_builtin; refine wpList_append_b2 rfl (.tmp 33) (.tmp 34) rfl w1.heap.size _ [] rfl (OwnB.nil _ _) a0 l0 _ _ rfl rfl HRD.out (by simp; omega) (Nat.le_refl _) l0 rfl l0.length rfl None w1 (Mod.refl _ _) (Nat.le_refl _) ?_; intro va vcap w2 HO HM2)
  clear g0 g1 g2 g3 heq
  obtain ⟨g, rest, rfl, _, hg, hblk⟩ := HO.out.opened (by omega)
  have HG := hid hg
  have hr0 : findRel at' l0 [q0, q1, q2, q3] g rest w2 w2 0 (.bool true) := ⟨by omega, by omega, by rw [oth_zero]; exact hblk, rfl, Mod.refl _ _⟩
  have HR0 := hid hr0
  have HK2 := hid (HM2.out.blk HK.out (fun h => h))
  have HRD2 := hid (HM2.out.rd HRD.out (fun _ _ h => h))
  have HLT := hid HK.out.lt
  clear hblk hg hr0 HK HRD
  go_wp2_with fail
  go_loopw [8, 9] (fun x i wr => ∃ k : Nat, i = .int .i64 k ∧ Hid (findRel at' l0 [q0, q1, q2, q3] g rest w2 wr k x)) (fun _ i _ => 4 - (intOf i).toNat)
  case atStart => exact ⟨0, rfl, HR0.out⟩
  case round =>
    obtain ⟨k, rfl, hr⟩ := hrel
    have hx := hr.out.2.2.2.1
    subst hx
    have hk4 := hr.out.1
    have hkl := hr.out.2.1
    clear HR0
    by_cases hlt : k < 4 ∧ at' + k < l0.length
    · obtain ⟨hlt4, hltl⟩ := hlt
      have hi1 : (k : Int) < 4 := by omega
      have hi2 : (k : Int) < (l0.length : Int) - (at' : Int) := by omega
      obtain ⟨hc1, hf1, hc2, hc3⟩ := find_cells (bb := w.heap.size) hr.out hlt4 hltl HK2.out (by have := HG.out; have := HLT.out; omega)
      generalize hz : allZ [q0, q1, q2, q3] k = z
      have HZ := hid hz
      clear hz
      generalize hl : l0[at' + k] = lb at hc1
      have HL := hid hl
      clear hl
      generalize hq : [q0, q1, q2, q3][k] = qb at hc2 hc3
      have HQ := hid hq
      clear hq
      go_wp2_with fail
      go_region
      have HS := hid (find_step hr.out hlt4 hltl HL.out HQ.out HZ.out)
      cases z
      · go_wp2
        go_roundw
        case rel => exact ⟨k + 1, by go_num, HS.out _ rfl⟩
        case measure => simp [intOf]; omega
      · go_wp2
        go_roundw
        case rel => exact ⟨k + 1, by go_num, HS.out _ (by rw [Bool.true_and, byte_zero])⟩
        case measure => simp [intOf]; omega
    · have he := find_end hr.out hlt
      have hlen : (oth l0 at' [q0, q1, q2, q3] k).length = l0.length := oth_length _ _ _ _
      have HRD3 := hid (he.2.2.rd HRD2.out (fun x hx => ?_))
      rotate_left
      · have h1 := HG.out
        have h2 := HLT.out
        rcases HRW.out with h | ⟨bb, oo, rfl, hc⟩
        · exfalso; simp at h; subst h; simp at hge
        · have h3 := RdV.lt (.inr ⟨bb, oo, rfl, hc⟩ : RdV w (some ⟨bb, oo, none⟩) (l0.map B)) (by intro h; simp at h; subst h; simp at hge)
          cases hx
          intro e
          have e' : bb = g := e
          omega
      have HM3 := hid he.2.2
      have HR3 := hid he.1
      have HE := hid he.2.1
      clear he hr
      generalize hz : allZ [q0, q1, q2, q3] k = z at HE ⊢
      clear hz
      generalize oth l0 at' [q0, q1, q2, q3] k = ot at *
      have hor : ((k : Int) < 4 ∧ ¬ ((k : Int) < (l0.length : Int) - (at' : Int))) ∨ ¬ (k : Int) < 4 := by omega
      have HMX := hid ((HM.out.trans HM2.out).then HM3.out (S := None) (fun i hi e => by have := HG.out; have := HLT.out; omega))
      clear HM3 HM2 HM HO HG hlt
      rcases hor with ⟨h4, hi2⟩ | h4
      all_goals
        go_wp2_with fail
        refine (sum_made _ [ot] _ _ _ rfl (by simp) rfl (by simp) (fun i hi => ?_) ot (by simp)).mono ?_
        · obtain rfl : i = 0 := by simpa using hi
          exact ⟨_, rfl, _, _, by rw [← hlen]; rfl, HR3.out, by show ot.length ≤ _; omega⟩
        rintro e w4 ⟨rfl, rfl⟩
        go_wp2_with fail
        refine (sum_made _ [l0] _ _ _ rfl (by simp) rfl (by simp) (fun i hi => ?_) l0 (by simp)).mono ?_
        · obtain rfl : i = 0 := by simpa using hi
          exact ⟨_, rfl, _, _, rfl, ((Mod.refl None _).alloc _).rd HRD3.out (fun _ _ h => h), by show l0.length ≤ _; omega⟩
        rintro e w5 ⟨rfl, rfl⟩
        go_wp2_with fail
        go_ret
        exact ⟨ret_bool (by rw [HE.out]; simp), ((HMX.out.alloc _).alloc _).below _ (Nat.le_refl _) (fun _ h => h.elim)⟩
end Go.Proofs.Ytdhhpnfdnoaihaa

/-! X13 -/
/- The walk of JournalSpoilt. -/
namespace Go.Proofs.Ytdhhpnfdnoaihaa
open Go.RowKit

set_option maxRecDepth 100000 in
set_option maxHeartbeats 1600000 in
theorem JournalSpoilt_walk (w : World) (v0 : Value) (l0 : List (List UInt8)) (w0 : VBytess w v0 l0) (a1 : Int) (w1 : (Lit.int .u8 a1).wf = true) (a2 : Int) (w2 : (Lit.int .i64 a2).wf = true) (v3 : Value) (q : UInt8 × UInt8 × UInt8 × UInt8) (w3 : VArr4 v3 q) :
    Calls Try.prog 12 #[v0, .int .u8 a1, .int .i64 a2, v3] w fun e w' => e = .returned (.bool true) ∧ Below w.heap.size w w' := by
  obtain ⟨a0, cap0, rfl, hlen0, hseen⟩ := w0
  obtain ⟨q0, q1, q2, q3⟩ := q
  unfold VArr4 at w3
  subst w3
  have hwhich : 0 ≤ a1 ∧ a1 ≤ 255 := by simpa [Lit.wf, IntKind.min, IntKind.max, IntKind.signed, IntKind.bits] using w1
  have HWH := hid hwhich
  have HS := hid (VBytess.ss hseen (Mod.refl None w))
  have HAT := hid (show -9223372036854775808 ≤ a2 ∧ a2 ≤ 9223372036854775807 by simpa [Lit.wf, IntKind.min, IntKind.max, IntKind.signed, IntKind.bits] using w2)
  clear hseen w1 w2 hwhich
  go_enter Try.func12, Try.ntmps12
  go_wp2_with fail
  obtain ⟨W1, hW1⟩ : ∃ W1, W1 = w.alloc (.cells #[B q0, B q1, B q2, B q3] 33) := ⟨_, rfl⟩
  have HM0 := hid (show Mod None w W1 by rw [hW1]; exact (Mod.refl _ _).alloc _)
  have HBX := hid (show Blk W1 w.heap.size 33 [B q0, B q1, B q2, B q3] by rw [hW1]; exact Blk.new w 33 _)
  first | rw [← hW1] | (unfold B at hW1; rw [← hW1])
  clear hW1
  refine (live_new W1 W1 (Mod.refl _ _) 100 100 (by omega)).mono ?_
  rintro e w2 ⟨p, S, rfl, hl, _, _⟩
  have HL := hid hl
  clear hl
  go_wp2_with fail
  refine (open0_any W1 w2 S p (DSt.new 100) HL.out 100 (by simp [DSt.new]) rfl).mono ?_
  rintro e w3 ⟨j, rfl, hj, hjn, hm, hl⟩
  have HR3 : Hid (spRel W1 w3 p j (.slice none 0 0) (.slice none 0 0) []) := hid ⟨S, DSt.new 100, hl, ⟨⟨rfl, show (-1 : Int) < 0 by decide⟩, rfl, fun s hs => by simp [DSt.new] at hs; subst hs; simp [zeros64]⟩, by simp [DSt.new], hj, fun hs => by have := HL.out.lt j hs; omega, Nat.le_trans HL.out.2.1.size hjn, NRow.nil _ _, NRow.nil _ _,
    fun g hg => by simp [Value.ownBlock] at hg, fun g hg => by simp [Value.ownBlock] at hg, by simp [frames], by simp, by simp [frames]⟩
  clear hj hjn hm hl HL
  go_wp2_with fail
  refine (awake5_any w3).mono ?_
  rintro e w4 ⟨rfl, hm⟩
  have HR4 : Hid (spRel W1 w4 p j (.slice none 0 0) (.slice none 0 0) []) := by
    obtain ⟨S, st, h1, h2, h3, h4, h5, h6, h7, h8, h9⟩ := HR3.out
    exact hid ⟨S, st, h1.step hm, h2, h3, hm.blk h4 (fun h => h), h5, h6, h7.kept hm (fun _ _ h => h), h8.kept hm (fun _ _ h => h), h9⟩
  clear hm HR3
  go_wp2_with fail
  go_loopw [13, 14, 15, 16] (fun v1 v2 i _ wr => ∃ (k : Nat) (done : List (List UInt8)), k ≤ l0.length ∧ k ≤ 10 ∧ done.length ≤ k ∧ i = .int .i64 k ∧ Hid (spRel W1 wr p j v1 v2 done)) (fun _ _ i _ _ => l0.length - (intOf i).toNat)
  case atStart => exact ⟨0, [], by omega, by omega, by simp, rfl, HR4.out⟩
  case round =>
    obtain ⟨k, done, hk, hk10, hdk, rfl, hr⟩ := hrel
    clear HR4
    by_cases hlt : k < l0.length
    · have hlt' : (k : Int) < (l0.length : Int) := by omega
      by_cases hlt10 : k < 10
      · have hlt10' : (k : Int) < 10 := by omega
        obtain ⟨S, st, hl, hrest, hlen, hj, hjS, hj0, hr1, hr2, hf1, hf2, hfl, hdl, hen⟩ := hr.out
        have HL := hid hl
        have HST := hid (And.intro hrest hlen)
        have HJ := hid hj
        have HJS := hid (And.intro hjS hj0)
        have HV1 := hid hr1
        have HV2 := hid hr2
        have HF1 := hid hf1
        have HF2 := hid hf2
        have HFL := hid (And.intro hfl (And.intro hdl hen))
        clear hl hrest hlen hj hjS hj0 hr1 hr2 hf1 hf2 hfl hdl hen
        have HMW := hid (HM0.out.trans HL.out.2.1)
        rcases HS.out with h0 | ⟨bb, o, rfl, hc⟩
        · rw [h0] at hlt; simp at hlt
        obtain ⟨u, hu, hpart⟩ := hc k hlt
        have HBW := hid (show bb < w.heap.size from World.block_lt_of_cell? w _ hu)
        obtain ⟨pa, pc, rfl, hprd, hpl⟩ := hpart
        have hcell : wr.cell? ⟨bb, o + k, none⟩ = some (.slice pa l0[k].length pc) := (HMW.out.cell (p := ⟨bb, o + k, none⟩) (World.block_lt_of_cell? w _ hu) (fun h => h)).trans hu
        have HPRD := hid (HMW.out.rd hprd (fun _ _ h => h))
        clear hc hu hprd hpl
        generalize hx : l0[k] = x at *
        clear hx
        have HE := hid (end_any HJ.out)
        generalize hdlen : (frames done).length = en at *
        have HEN := hid hdlen
        clear hdlen
        by_cases hlong : x.length ≤ 100
        · have hlong' : (x.length : Int) ≤ 100 := by omega
          have hben : en ≤ 1160 := by have := HFL.out.2.2; omega
          obtain ⟨r1, r2, r3, r4⟩ := HST.out.1.appended 0 100 en x (by rw [HST.out.2]; omega) (by omega)
          have HAP := hid (And.intro r2 (And.intro r3 r4))
          have HOK := hid (append_ok HL.out (fr := 0) (to := 100) (en := en) (ct := done.length) HJ.out HJS.out.1 HJS.out.2 pa pc x.length x rfl HPRD.out (by rw [HST.out.2]; omega) (by omega) (by omega) (by omega) (by omega) HST.out.1.calm.down (by rw [HST.out.1.waits]; simp) r1)
          clear r1 r2 r3 r4 hr
          go_wp2_with fail
          refine HE.out.mono ?_
          rintro e w5 ⟨rfl, rfl⟩
          go_wp2_with fail
          refine HOK.out.mono ?_
          rintro e w5 ⟨S5, rfl, hl5, hj5, hm5, hS5⟩
          have HL5 := hid hl5
          have HJ5 := hid hj5
          have HJS5 := hid (show ¬ S5 j from fun hs => HJS.out.1 (hS5 j HJ.out.lt hs))
          have HV15 := hid (HV1.out.kept hm5 (fun g hg hs => by
            rcases hs with hs | hs
            · exact (HF1.out g hg).1 hs
            · exact (HF1.out g hg).2.1 hs))
          have HV25 := hid (HV2.out.kept hm5 (fun g hg hs => by
            rcases hs with hs | hs
            · exact (HF2.out g hg).1 hs
            · exact (HF2.out g hg).2 hs))
          have HF15 := hid (show ∀ g, u13.ownBlock = some g → ¬ S5 g ∧ g ≠ j ∧ ¬ u14.ownBlock = some g from fun g hg => ⟨fun hs => (HF1.out g hg).1 (hS5 g (World.ownsRow.lt HV1.out g hg).2 hs), (HF1.out g hg).2⟩)
          have HF25 := hid (show ∀ g, u14.ownBlock = some g → ¬ S5 g ∧ g ≠ j from fun g hg => ⟨fun hs => (HF2.out g hg).1 (hS5 g (World.ownsRow.lt HV2.out g hg).2 hs), (HF2.out g hg).2⟩)
          have hcell5 : w5.cell? ⟨bb, o + k, none⟩ = some (.slice pa x.length pc) := by
            have hb1 := World.block_lt_of_cell? wr _ hcell
            have hbw : bb < w.heap.size := HBW.out
            rw [hm5.cell (p := ⟨bb, o + k, none⟩) hb1 (fun hs => by
              have h1 := HM0.out.size
              rcases hs with hs | hs
              · have := HL.out.2.2 bb hs; omega
              · have e : bb = j := hs
                have := HJS.out.2; omega)]; exact hcell
          clear hl5 hj5 hm5 hS5 HOK hcell HL HJ HV1 HV2 HF1 HF2
          obtain ⟨i3, hi3, hz3, hs3, hb3⟩ := info_parts s_info3
          have hsl : (startsL done).length ≤ 10 := by rw [startsL_len]; omega
          have hzl : (sizesL done).length ≤ 10 := by unfold sizesL; rw [List.length_map]; omega
          have hwe : IntKind.i64.wrap ((en : Int) + 16) = (en : Int) + 16 := wrap_in _ (by omega)
          have HT1 := hid (fun g hg => (World.ownsRow.lt HV15.out g hg))
          have HT2 := hid (fun g hg => (World.ownsRow.lt HV25.out g hg))
          have HBL := hid (show ∀ g, W1.heap.size ≤ g → bb ≠ g from fun g hg e => by have h1 : bb < w.heap.size := HBW.out; have := HM0.out.size; omega)
          have HV1A := hid (World.ownsRow.alloc HV15.out (.cells #[.int .i64 ((en : Int) + 16)] 3))
          have hcellB : bb < w5.heap.size := World.block_lt_of_cell? w5 _ hcell5
          have HCB := hid hcellB
          clear hcellB
          go_wp2_with (at_builtin; first
            | (refine wpList_plain rfl (fun K hK => wp_append_R (.tmp 70) (.tmp 73) 65 rfl 3 i3 (.int .i64 0) 1 8 s_und65 hi3 hz3 hs3 hb3 rfl (by decide) _ (startsL done).length ((startsL done).map N64) rfl (row_base HV1A.out (Nat.zero_le _)) _ 1 1 [.int .i64 ((en : Int) + 16)] rfl rfl ((Blk.new w5 3 #[.int .i64 ((en : Int) + 16)]).rdv 0 (fun i hi => by rw [Nat.zero_add])) (by intro u hu; simp at hu; subst hu; rfl) (by unfold maxLen; omega) (by omega) (fun va vc w6 h2 h3 h4 => hK _ _ ?_))
               have HA1 := hid (((Mod.refl (fun k => u13.ownBlock = some k) w5).alloc (.cells #[.int .i64 ((en : Int) + 16)] 3)).trans h3.out)
               have HA2 : Hid (NRow w6 W1.heap.size (.slice va ((startsL done).length + 1) vc) (startsL done ++ [en + 16])) := hid (NRow.snoc (w1 := w5.alloc (.cells #[.int .i64 ((en : Int) + 16)] 3)) HV1A.out h2.out h4.out (Nat.le_trans HL5.out.2.1.size (by simp)))
               have HA3 : Hid (∀ g, (Value.slice va ((startsL done).length + 1) vc).ownBlock = some g → u13.ownBlock = some g ∨ w5.heap.size ≤ g) := hid (fun g hg => (h4.out g hg).imp id (fun h => by have := h.1; simp at this; omega))
               have hcell6 : w6.cell? ⟨bb, o + k, none⟩ = some (.slice pa x.length pc) := by
                 rw [HA1.out.cell (p := ⟨bb, o + k, none⟩) HCB.out (fun hg => HBL.out bb (HT1.out bb hg).1 rfl)]; exact hcell5
               have HB1 := hid (HV25.out.kept HA1.out (fun g hg hg1 => (HF15.out g hg1).2.2 hg))
               have HB1A := hid (World.ownsRow.alloc HB1.out (.cells #[.int .i64 (x.length : Int)] 3))
               clear h2 h3 h4)
            | (refine wpList_plain rfl (fun K hK => wp_append_R (.tmp 75) (.tmp 81) 65 rfl 3 i3 (.int .i64 0) 1 8 s_und65 hi3 hz3 hs3 hb3 rfl (by decide) _ (sizesL done).length ((sizesL done).map N64) rfl (row_base HB1A.out (Nat.zero_le _)) _ 1 1 [.int .i64 (x.length : Int)] rfl rfl ((Blk.new w6 3 #[.int .i64 (x.length : Int)]).rdv 0 (fun i hi => by rw [Nat.zero_add])) (by intro u hu; simp at hu; subst hu; rfl) (by unfold maxLen; omega) (by omega) (fun vb vd w7 h2 h3 h4 => hK _ _ ?_))))
          have HFLN := hid (show (frames (done ++ [x])).length = en + x.length + 16 by rw [frames_snoc, List.length_append, frameL_len, HEN.out]; omega)
          have HW7 : Hid (spRel W1 w7 p j (.slice va ((startsL done).length + 1) vc) (.slice vb ((sizesL done).length + 1) vd) (done ++ [x])) := hid (by
            have hl6 := (HL5.out.turn (T := fun y => u13.ownBlock = some y) (T' := fun y => u13.ownBlock = some y) (.same HA1.out) (fun y hs hy => (HF15.out y hy).1 hs) (fun y hy => (HT1.out y hy).1)).1
            have hl7 := ((hl6.alloc (.cells #[.int .i64 (x.length : Int)] 3)).turn (T := fun y => u14.ownBlock = some y) (T' := fun y => u14.ownBlock = some y) (.same h3.out) (fun y hs hy => (HF25.out y hy).1 hs) (fun y hy => (HT2.out y hy).1)).1
            have hj6 := HA1.out.blk HJ5.out (fun hy => (HF15.out j hy).2.1 rfl)
            have hj7 := h3.out.blk (hj6.alloc (.cells #[.int .i64 (x.length : Int)] 3)) (fun hy => (HF25.out j hy).2 rfl)
            have hw56 := HA1.out.size
            have hjl := HJ5.out.lt
            have hs1 : ∀ g, (Value.slice va ((startsL done).length + 1) vc).ownBlock = some g → ¬ u14.ownBlock = some g := fun g hg hg2 => by
              rcases HA3.out g hg with h | h
              · exact (HF15.out g h).2.2 hg2
              · have := (HT2.out g hg2).2; omega
            refine ⟨S5, _, hl7, HAP.out.1, by rw [HAP.out.2.1]; exact HST.out.2, ?_, HJS5.out, HJS.out.2, ?_, ?_, ?_, ?_, ?_, ?_, ?_⟩
            · rw [HFLN.out, List.length_append]; exact hj7
            · rw [startsL_snoc, HEN.out]
              exact (NRow.kept (World.ownsRow.alloc HA2.out (.cells #[.int .i64 (x.length : Int)] 3)) h3.out hs1)
            · have e : sizesL (done ++ [x]) = sizesL done ++ [x.length] := by simp [sizesL]
              rw [e]
              exact NRow.snoc (w1 := w6.alloc (.cells #[.int .i64 (x.length : Int)] 3)) HB1A.out h2.out h4.out (Nat.le_trans hl6.2.1.size (by simp))
            · intro g hg
              have hg6 := (World.ownsRow.lt HA2.out g hg).2
              have hv2 : ¬ (Value.slice vb ((sizesL done).length + 1) vd).ownBlock = some g := fun h => by
                rcases h4.out g h with h | h
                · exact hs1 g hg h
                · have := h.1; simp at this; omega
              rcases HA3.out g hg with h | h
              · exact ⟨(HF15.out g h).1, (HF15.out g h).2.1, hv2⟩
              · exact ⟨fun hs => by have := HL5.out.lt g hs; omega, fun e => by omega, hv2⟩
            · intro g hg
              rcases h4.out g hg with h | h
              · exact HF25.out g h
              · have h5 := h.1
                simp at h5
                exact ⟨fun hs => by have := HL5.out.lt g hs; omega, fun e => by omega⟩
            · rw [HFLN.out, HAP.out.2.2, HFL.out.1, frames_snoc]
            · intro l hl
              rcases List.mem_append.1 hl with hl | hl
              · exact HFL.out.2.1 l hl
              · simp at hl; subst hl; exact hlong
            · have := HFL.out.2.2
              rw [HFLN.out, List.length_append, List.length_singleton]; omega)
          clear h2 h3 h4
          go_roundw
          case rel => exact ⟨k + 1, done ++ [x], by omega, by omega, by simp; omega, by go_num, HW7.out⟩
          case measure => simp [intOf]; omega
        · have hlong' : ¬ (x.length : Int) ≤ 100 := by omega
          clear HPRD
          go_wp2_with fail
          refine HE.out.mono ?_
          rintro e w5 ⟨rfl, rfl⟩
          go_wp2_with fail
          go_roundw
          case rel => exact ⟨k + 1, done, by omega, by omega, by omega, by go_num, hr.out⟩
          case measure => simp [intOf]; omega
      · have hlt10' : ¬ (k : Int) < 10 := by omega
        obtain ⟨S, st, hl, hrest, hlen, hj, hjS, hj0, hr1, hr2, hf1, hf2, hfl, hdl, hen⟩ := hr.out
        have HL := hid hl
        have HST := hid (And.intro hrest hlen)
        have HJ := hid hj
        have HJS := hid (And.intro hjS hj0)
        have HF1 := hid hf1
        have HF2 := hid hf2
        have HFL := hid (And.intro hfl (And.intro hdl hen))
        obtain ⟨va, vc, hv1⟩ := hr1.shape
        obtain ⟨vb, vd, hv2⟩ := hr2.shape
        rw [startsL_len] at hv1
        rw [show (sizesL done).length = done.length by simp [sizesL]] at hv2
        have HV1 := hid hr1
        have HV2 := hid hr2
        clear hl hrest hlen hj hjS hj0 hr1 hr2 hf1 hf2 hfl hdl hen hr
        subst hv1
        subst hv2
        by_cases hz : done.length = 0
        · have hz' : (done.length : Int) = 0 := by omega
          go_wp2_with fail
          go_ret
          exact ⟨rfl, (HM0.out.trans HL.out.2.1).below _ (Nat.le_refl _) (fun _ h => h.elim)⟩
        have hz' : ¬ (done.length : Int) = 0 := by omega
        have hwa : IntKind.i64.wrap a1 = a1 := wrap_in _ (by have := HWH.out; omega)
        obtain ⟨kk, hkk, hkn⟩ : ∃ kk : Nat, a1.tmod (done.length : Int) = (kk : Int) ∧ kk < done.length := by
          have h1 := HWH.out
          have h2 := Int.emod_nonneg a1 hz'
          have h3 := Int.emod_lt_of_pos a1 (show (0 : Int) < done.length by omega)
          rw [Int.tmod_eq_emod_of_nonneg h1.1]
          exact ⟨(a1 % (done.length : Int)).toNat, by omega, by omega⟩
        obtain ⟨g1, rfl, hg1, hc1⟩ := HV1.out.cell (k := kk) (by rw [startsL_len]; exact hkn)
        obtain ⟨g2, rfl, hg2, hc2⟩ := HV2.out.cell (k := kk) (by simp [sizesL]; exact hkn)
        have e1 : (startsL done)[kk]'(by rw [startsL_len]; exact hkn) = (frames (done.take kk)).length + 16 := by simp [startsL]
        have e2 : (sizesL done)[kk]'(by simp [sizesL]; exact hkn) = done[kk].length := by simp [sizesL]
        rw [e1] at hc1
        rw [e2] at hc2
        clear e1 e2
        have hsz : done[kk].length ≤ 100 := HFL.out.2.1 _ (List.getElem_mem hkn)
        have hps : (frames (done.take kk)).length + 16 + done[kk].length ≤ (frames done).length := by
          have e : done.take kk ++ (done[kk] :: done.drop (kk + 1)) = done := by rw [← List.drop_eq_getElem_cons hkn, List.take_append_drop]
          have := congrArg (fun l => (frames l).length) e
          simp only [frames_app, frames_cons, List.length_append, frameL_len] at this
          omega
        have HPS := hid hps
        generalize hsl : done[kk].length = size at *
        generalize hpl : (frames (done.take kk)).length = pre at *
        have HSL := hid (And.intro hsl hpl)
        clear hsl hpl hps
        have HKN := hid hkn
        by_cases hat : a2 < 0
        · go_wp2_with fail
          go_ret
          exact ⟨rfl, (HM0.out.trans HL.out.2.1).below _ (Nat.le_refl _) (fun _ h => h.elim)⟩
        obtain ⟨at', rfl⟩ : ∃ at' : Nat, a2 = (at' : Int) := ⟨a2.toNat, by omega⟩
        by_cases hbig : (size : Int) ≤ (at' : Int)
        · go_wp2_with fail
          go_ret
          exact ⟨rfl, (HM0.out.trans HL.out.2.1).below _ (Nat.le_refl _) (fun _ h => h.elim)⟩
        have HR2 : Hid (spRel2 W1 wr p j (frames done).length done.length (.slice (some ⟨g1, 0, none⟩) done.length vc) (.slice (some ⟨g2, 0, none⟩) done.length vd) done (flat st.last 0) (pre + 16 + at') [q0, q1, q2, q3] 0) := hid ⟨S, st, HL.out, HST.out.1.calm, HST.out.2, by rw [HST.out.1.waits]; simp, by rw [tells_rest HST.out.1, oth_zero], HJ.out, HJS.out.1, HV1.out, HV2.out, fun g hg => (HF1.out g hg).1, fun g hg => (HF2.out g hg).1⟩
        have hats : at' + 1 ≤ size := by omega
        have HNG := hid (show g1 < wr.heap.size ∧ g2 < wr.heap.size from ⟨(World.ownsRow.lt HV1.out g1 rfl).2, (World.ownsRow.lt HV2.out g2 rfl).2⟩)
        have HB0 := hid (HM0.out.size)
        have hpb : pre ≤ 1160 ∧ (frames done).length ≤ 1160 := by have := HFL.out.2.2; have := HPS.out; omega
        clear HL HJ HV1 HV2 HF1 HF2
        generalize hF : flat st.last 0 = F at *
        have HFF := hid (show F.take (frames done).length = frames done from HFL.out.1)
        clear hF
        go_wp2_with fail
        clear hc1 hc2
        go_loopw [18, 19, 20, 21, 22] (fun x i _ _ _ wr => ∃ m : Nat, m ≤ 4 ∧ at' + m ≤ size ∧ i = .int .i64 m ∧ x = .bool (!allZ [q0, q1, q2, q3] m) ∧ Hid (spRel2 W1 wr p j (frames done).length done.length (.slice (some ⟨g1, 0, none⟩) done.length vc) (.slice (some ⟨g2, 0, none⟩) done.length vd) done F (pre + 16 + at') [q0, q1, q2, q3] m)) (fun _ i _ _ _ _ => 4 - (intOf i).toNat)
        case atStart => exact ⟨0, by omega, by omega, rfl, by rfl, HR2.out⟩
        case round =>
          obtain ⟨m, hm4, hms, rfl, rfl, hr⟩ := hrel
          clear HR2
          obtain ⟨S2, st2, hl2, hc2, hlen2, hw2, hfl2, hj2, hjS2, hn1, hn2, ho1, ho2⟩ := hr.out
          have HL2 := hid hl2
          have HC2 := hid (And.intro hc2 (And.intro hlen2 (And.intro hw2 hfl2)))
          have HJ2 := hid (And.intro hj2 hjS2)
          have HN1 := hid hn1
          have HN2 := hid hn2
          have HO := hid (And.intro ho1 ho2)
          obtain ⟨g1', e1, _, hcs1⟩ := hn1.cell (k := kk) (by rw [startsL_len]; exact HKN.out)
          obtain ⟨g2', e2, _, hcs2⟩ := hn2.cell (k := kk) (by simp [sizesL]; exact HKN.out)
          obtain rfl : g1 = g1' := by cases e1; rfl
          obtain rfl : g2 = g2' := by cases e2; rfl
          rw [show (startsL done)[kk]'(by rw [startsL_len]; exact HKN.out) = pre + 16 by simp [startsL]; exact HSL.out.2] at hcs1
          rw [show (sizesL done)[kk]'(by simp [sizesL]; exact HKN.out) = size by simp [sizesL]; exact HSL.out.1] at hcs2
          clear e1 e2 hl2 hc2 hlen2 hw2 hfl2 hj2 hjS2 hn1 hn2 ho1 ho2 hr
          by_cases hgo : m < 4 ∧ at' + m < size
          · obtain ⟨hgo4, hgos⟩ := hgo
            have hgo4' : (m : Int) < 4 := by omega
            have hw1 : IntKind.i64.wrap ((size : Int) - (at' : Int)) = (size : Int) - (at' : Int) := wrap_in _ (by omega)
            have hgos' : (m : Int) < (size : Int) - (at' : Int) := by omega
            obtain ⟨sc, hsc, hsc2⟩ : ∃ sc : Nat, ((pre : Int) + 16 + (at' : Int) + (m : Int)) / 64 = (sc : Int) ∧ sc = (pre + 16 + at' + m) / 64 := ⟨_, by omega, rfl⟩
            obtain ⟨r, hr1, hr2⟩ : ∃ r : Nat, ((pre : Int) + 16 + (at' : Int) + (m : Int)) % 64 = (r : Int) ∧ r = (pre + 16 + at' + m) % 64 := ⟨_, by omega, rfl⟩
            have hr64 : r < 64 := by omega
            have hplb : pre + 16 + at' + m < 6400 := by have := HPS.out; omega
            obtain ⟨s, x, hread, hsl, hx, hwr, hcw, hlw, hww, hfw⟩ := sp_step HC2.out.1 HL2.out.ok HC2.out.2.1 HC2.out.2.2.2 (pl := pre + 16 + at' + m) rfl hplb hsc2 hr2
            have HNX := hid (And.intro hwr (And.intro hcw (And.intro hlw (And.intro hww hfw))))
            have hlr := live_read HL2.out (sc : Int)
            rw [hread] at hlr
            have HLR := hid hlr
            have HSX := hid (And.intro hsl hx)
            clear hread hwr hcw hlw hww hfw hlr hsl hx
            have HP4 := hid (And.intro hsc2 hr2)
            clear hsc2 hr2
            go_wp2_with fail
            rw [hsc]
            refine HLR.out.mono ?_
            rintro e w6 ⟨a6, rfl, htold, _, hl6, hm6⟩
            dsimp only
            rw [HSX.out.1]
            rcases htold with ⟨_, hs0⟩ | ⟨b6, rfl, hb6, hbk⟩
            · have h1 : s = [] := hs0
              have := HSX.out.1
              rw [h1] at this; simp at this
            have hbk' : Blk w6 b6 105 (s.map B) := hbk
            have HBK := hid hbk'
            have HB6 := hid hb6
            have HL6 := hid hl6
            have HM6 := hid hm6
            have hc6 : w6.cell? ⟨b6, r, none⟩ = some (.int .u8 (x.toNat : Int)) := hbk'.is (by rw [List.getElem?_map, HSX.out.2]; rfl)
            have hf6 : w6.frozen? ⟨b6, r, none⟩ = false := hbk'.free r
            clear hbk hbk' hb6 hl6 hm6 HLR
            obtain ⟨y, hy⟩ : ∃ y, [q0, q1, q2, q3][m]? = some y := ⟨_, List.getElem?_eq_getElem (by simp; omega)⟩
            have hyb : w6.cell? ⟨w.heap.size, m, none⟩ = some (.int .u8 (y.toNat : Int)) := (HL6.out.2.1.blk HBX.out (fun h => h)).is (by
              rw [show [B q0, B q1, B q2, B q3] = [q0, q1, q2, q3].map B from rfl, List.getElem?_map, hy]; rfl)
            have hxor := xor8 x y
            have HY := hid hy
            clear hy
            go_wp2_with fail
            go_region
            have hxy : ((x.toNat ^^^ y.toNat : Nat) : Int) = ((x ^^^ y).toNat : Int) := by rw [UInt8.toNat_xor]
            rw [hxy]
            have hm7 : Mod (fun z => z = b6) w6 (w6.setCell ⟨b6, r, none⟩ (.int .u8 ((x ^^^ y).toNat : Int))).drew := (Mod.set (S := fun z => z = b6) (Mod.refl _ _) (.inl rfl) _).drew
            have hbk7 : Blk (w6.setCell ⟨b6, r, none⟩ (.int .u8 ((x ^^^ y).toNat : Int))).drew b6 105 ((s.map B).set r (B (x ^^^ y))) := (HBK.out.set r _).drew
            generalize (w6.setCell ⟨b6, r, none⟩ (.int .u8 ((x ^^^ y).toNat : Int))).drew = w7 at *
            have HM7 := hid hm7
            have HL7 := hid ((HL6.out.turn (T := fun z => z = b6) (T' := fun z => z = b6) (.same hm7) (fun z hs e => by have := HL2.out.lt z hs; have := HB6.out; omega) (fun z e => by have := HB6.out; have := HL2.out.2.1.size; omega)).1)
            have HRD7 : Hid (Rd w7 (some ⟨b6, 0, none⟩) (s.set r (x ^^^ y))) := hid (hbk7.rdv 0 (fun i _ => by rw [Nat.zero_add, List.map_set]))
            have hgd : [q0, q1, q2, q3].getD m 0 = y := by rw [List.getD_eq_getElem?_getD, HY.out]; rfl
            rw [hgd] at HNX
            have HLW := hid (live_write HL7.out (sc : Int) (some ⟨b6, 0, none⟩) 64 64 (s.set r (x ^^^ y)) (by rw [List.length_set, HSX.out.1]) HRD7.out (by rw [List.length_set, HSX.out.1]; omega) (by have := HC2.out.2.2.1; omega))
            rw [HNX.out.1] at HLW
            clear hm7 hbk7 hc6 hf6 hyb hgd hxy hxor
            generalize (st2.write (sc : Int) (s.set r (x ^^^ y))).1 = st3 at *
            go_wp2_with fail
            rw [hsc]
            refine HLW.out.mono ?_
            rintro e w8 ⟨S3, rfl, hl8, ht8⟩
            have HL8 := hid hl8
            have hm68 := HM6.out.size
            have HJ8 := hid (ht8.mod.blk (HM7.out.blk (HM6.out.blk HJ2.out.1 (fun h => h)) (fun e => by have := HJ2.out.1.lt; have := HB6.out; omega)) HJ2.out.2)
            have HJS8 := hid (show ¬ S3 j from fun hs => HJ2.out.2 (ht8.old j (Nat.lt_of_lt_of_le HJ2.out.1.lt (Nat.le_trans HM6.out.size HM7.out.size)) hs))
            have hkeep : ∀ (v : Value) (ns : List Nat), NRow wr W1.heap.size v ns → (∀ g, v.ownBlock = some g → ¬ S2 g) → NRow w8 W1.heap.size v ns ∧ ∀ g, v.ownBlock = some g → ¬ S3 g := fun v ns hv ho => by
              have hlt := World.ownsRow.lt hv
              refine ⟨((hv.kept HM6.out (fun _ _ h => h)).kept HM7.out (fun g hg e => by have := (hlt g hg).2; have := HB6.out; omega)).kept ht8.mod ho, fun g hg hs => ho g hg (ht8.old g (Nat.lt_of_lt_of_le (hlt g hg).2 (Nat.le_trans HM6.out.size HM7.out.size)) hs)⟩
            obtain ⟨k1, k2⟩ := hkeep _ _ HN1.out HO.out.1
            obtain ⟨k3, k4⟩ := hkeep _ _ HN2.out HO.out.2
            have HR8 : Hid (spRel2 W1 w8 p j (frames done).length done.length (.slice (some ⟨g1, 0, none⟩) done.length vc) (.slice (some ⟨g2, 0, none⟩) done.length vd) done F (pre + 16 + at') [q0, q1, q2, q3] (m + 1)) := hid ⟨S3, st3, HL8.out, HNX.out.2.1, HNX.out.2.2.1, by have := HNX.out.2.2.2.1; have := HC2.out.2.2.1; omega, HNX.out.2.2.2.2, HJ8.out, HJS8.out, k1, k3, k2, k4⟩
            have hyb8 : w8.cell? ⟨w.heap.size, m, none⟩ = some (.int .u8 (y.toNat : Int)) := (HL8.out.2.1.blk HBX.out (fun h => h)).is (by
              rw [show [B q0, B q1, B q2, B q3] = [q0, q1, q2, q3].map B from rfl, List.getElem?_map, HY.out]; rfl)
            have haz : allZ [q0, q1, q2, q3] (m + 1) = (allZ [q0, q1, q2, q3] m && y == 0) := by
              rw [allZ_succ _ _ (by simp; omega)]
              congr 2
              have := HY.out
              rw [List.getElem?_eq_getElem (by simp; omega)] at this
              injection this
            have HAZ := hid haz
            clear haz k1 k2 k3 k4 hkeep hl8 ht8 HLW HL7 HRD7 HL6 HM6 HM7 HL2 HJ2 HN1 HN2 HO hcs1 hcs2
            cases hz0 : allZ [q0, q1, q2, q3] m
            all_goals
              rw [hz0] at HAZ
              go_wp2_with fail
              go_roundw
              case rel => exact ⟨m + 1, by omega, by omega, by go_num, by rw [HAZ.out]; first | rfl | (rw [Bool.true_and, ← byte_zero]; rfl) | (rw [Bool.true_and, ← byte_zero]; simp), HR8.out⟩
              case measure => simp [intOf]; omega
          · by_cases h4 : m < 4
            · have hgo4' : (m : Int) < 4 := by omega
              have hw1 : IntKind.i64.wrap ((size : Int) - (at' : Int)) = (size : Int) - (at' : Int) := wrap_in _ (by omega)
              have hgos' : ¬ (m : Int) < (size : Int) - (at' : Int) := by omega
              have hjo := sp_end HC2.out.1 HL2.out.ok HC2.out.2.1 HC2.out.2.2.2 done HFF.out (by omega) HFL.out.2.1 HKN.out (at' := at') (by rw [HSL.out.2]) (by rw [HSL.out.1]; exact hms) (by simp; omega) hm4 (by have := HPS.out; omega)
              have hop := open_any W1 wr S2 p st2 HL2.out 0 100 (frames done).length done.length (by rw [HC2.out.2.1]; omega) (by omega) HC2.out.1.down
              rw [hjo] at hop
              have HOP := hid hop
              have HE := hid (end_any HJ2.out.1)
              have HC := hid (count_any HJ2.out.1)
              have HMX := hid HL2.out.2.1
              clear hop hjo HL2 HC2 HN1 HN2 HO HJ2
              generalize (frames done).length = en at *
              cases hz0 : allZ [q0, q1, q2, q3] m
              · rw [hz0, if_neg (by simp)] at HOP
                go_wp2_with fail
                refine HE.out.mono ?_
                rintro e w5 ⟨rfl, rfl⟩
                go_wp2_with fail
                refine HC.out.mono ?_
                rintro e w5 ⟨rfl, rfl⟩
                go_wp2_with fail
                refine HOP.out.mono ?_
                rintro e w5 ⟨hm5, ⟨ls, j2, v, hls, _⟩ | ⟨_, rfl⟩⟩
                · cases hls
                · have HM5 := hid (HMX.out.trans hm5)
                  clear hm5 HE HC HOP
                  go_wp2_with fail
                  go_ret
                  exact ⟨rfl, (HM0.out.trans HM5.out).below _ (Nat.le_refl _) (fun _ h => h.elim)⟩
              · rw [hz0, if_pos rfl] at HOP
                go_wp2_with fail
                refine HE.out.mono ?_
                rintro e w5 ⟨rfl, rfl⟩
                go_wp2_with fail
                refine HC.out.mono ?_
                rintro e w5 ⟨rfl, rfl⟩
                go_wp2_with fail
                refine HOP.out.mono ?_
                rintro e w5 ⟨hm5, ⟨ls, j2, v, hls, rfl, _, _, hgot⟩ | ⟨h, _⟩⟩
                · obtain rfl : ls = done := by cases hls; rfl
                  obtain ⟨ga, gc, rfl⟩ := hgot.shape
                  have HM5 := hid (HMX.out.trans hm5)
                  clear hm5 hgot HE HC HOP hls
                  go_wp2_with fail
                  go_ret
                  exact ⟨rfl, (HM0.out.trans HM5.out).below _ (Nat.le_refl _) (fun _ h => h.elim)⟩
                · cases h
            · have hgo4' : ¬ (m : Int) < 4 := by omega
              have hjo := sp_end HC2.out.1 HL2.out.ok HC2.out.2.1 HC2.out.2.2.2 done HFF.out (by omega) HFL.out.2.1 HKN.out (at' := at') (by rw [HSL.out.2]) (by rw [HSL.out.1]; exact hms) (by simp; omega) hm4 (by have := HPS.out; omega)
              have hop := open_any W1 wr S2 p st2 HL2.out 0 100 (frames done).length done.length (by rw [HC2.out.2.1]; omega) (by omega) HC2.out.1.down
              rw [hjo] at hop
              have HOP := hid hop
              have HE := hid (end_any HJ2.out.1)
              have HC := hid (count_any HJ2.out.1)
              have HMX := hid HL2.out.2.1
              clear hop hjo HL2 HC2 HN1 HN2 HO HJ2
              generalize (frames done).length = en at *
              cases hz0 : allZ [q0, q1, q2, q3] m
              · rw [hz0, if_neg (by simp)] at HOP
                go_wp2_with fail
                refine HE.out.mono ?_
                rintro e w5 ⟨rfl, rfl⟩
                go_wp2_with fail
                refine HC.out.mono ?_
                rintro e w5 ⟨rfl, rfl⟩
                go_wp2_with fail
                refine HOP.out.mono ?_
                rintro e w5 ⟨hm5, ⟨ls, j2, v, hls, _⟩ | ⟨_, rfl⟩⟩
                · cases hls
                · have HM5 := hid (HMX.out.trans hm5)
                  clear hm5 HE HC HOP
                  go_wp2_with fail
                  go_ret
                  exact ⟨rfl, (HM0.out.trans HM5.out).below _ (Nat.le_refl _) (fun _ h => h.elim)⟩
              · rw [hz0, if_pos rfl] at HOP
                go_wp2_with fail
                refine HE.out.mono ?_
                rintro e w5 ⟨rfl, rfl⟩
                go_wp2_with fail
                refine HC.out.mono ?_
                rintro e w5 ⟨rfl, rfl⟩
                go_wp2_with fail
                refine HOP.out.mono ?_
                rintro e w5 ⟨hm5, ⟨ls, j2, v, hls, rfl, _, _, hgot⟩ | ⟨h, _⟩⟩
                · obtain rfl : ls = done := by cases hls; rfl
                  obtain ⟨ga, gc, rfl⟩ := hgot.shape
                  have HM5 := hid (HMX.out.trans hm5)
                  clear hm5 hgot HE HC HOP hls
                  go_wp2_with fail
                  go_ret
                  exact ⟨rfl, (HM0.out.trans HM5.out).below _ (Nat.le_refl _) (fun _ h => h.elim)⟩
                · cases h
    · have hlt' : ¬ (k : Int) < (l0.length : Int) := by omega
      obtain ⟨S, st, hl, hrest, hlen, hj, hjS, hj0, hr1, hr2, hf1, hf2, hfl, hdl, hen⟩ := hr.out
      have HL := hid hl
      have HST := hid (And.intro hrest hlen)
      have HJ := hid hj
      have HJS := hid (And.intro hjS hj0)
      have HF1 := hid hf1
      have HF2 := hid hf2
      have HFL := hid (And.intro hfl (And.intro hdl hen))
      obtain ⟨va, vc, hv1⟩ := hr1.shape
      obtain ⟨vb, vd, hv2⟩ := hr2.shape
      rw [startsL_len] at hv1
      rw [show (sizesL done).length = done.length by simp [sizesL]] at hv2
      have HV1 := hid hr1
      have HV2 := hid hr2
      clear hl hrest hlen hj hjS hj0 hr1 hr2 hf1 hf2 hfl hdl hen hr
      subst hv1
      subst hv2
      by_cases hz : done.length = 0
      · have hz' : (done.length : Int) = 0 := by omega
        go_wp2_with fail
        go_ret
        exact ⟨rfl, (HM0.out.trans HL.out.2.1).below _ (Nat.le_refl _) (fun _ h => h.elim)⟩
      have hz' : ¬ (done.length : Int) = 0 := by omega
      have hwa : IntKind.i64.wrap a1 = a1 := wrap_in _ (by have := HWH.out; omega)
      obtain ⟨kk, hkk, hkn⟩ : ∃ kk : Nat, a1.tmod (done.length : Int) = (kk : Int) ∧ kk < done.length := by
        have h1 := HWH.out
        have h2 := Int.emod_nonneg a1 hz'
        have h3 := Int.emod_lt_of_pos a1 (show (0 : Int) < done.length by omega)
        rw [Int.tmod_eq_emod_of_nonneg h1.1]
        exact ⟨(a1 % (done.length : Int)).toNat, by omega, by omega⟩
      obtain ⟨g1, rfl, hg1, hc1⟩ := HV1.out.cell (k := kk) (by rw [startsL_len]; exact hkn)
      obtain ⟨g2, rfl, hg2, hc2⟩ := HV2.out.cell (k := kk) (by simp [sizesL]; exact hkn)
      have e1 : (startsL done)[kk]'(by rw [startsL_len]; exact hkn) = (frames (done.take kk)).length + 16 := by simp [startsL]
      have e2 : (sizesL done)[kk]'(by simp [sizesL]; exact hkn) = done[kk].length := by simp [sizesL]
      rw [e1] at hc1
      rw [e2] at hc2
      clear e1 e2
      have hsz : done[kk].length ≤ 100 := HFL.out.2.1 _ (List.getElem_mem hkn)
      have hps : (frames (done.take kk)).length + 16 + done[kk].length ≤ (frames done).length := by
        have e : done.take kk ++ (done[kk] :: done.drop (kk + 1)) = done := by rw [← List.drop_eq_getElem_cons hkn, List.take_append_drop]
        have := congrArg (fun l => (frames l).length) e
        simp only [frames_app, frames_cons, List.length_append, frameL_len] at this
        omega
      have HPS := hid hps
      generalize hsl : done[kk].length = size at *
      generalize hpl : (frames (done.take kk)).length = pre at *
      have HSL := hid (And.intro hsl hpl)
      clear hsl hpl hps
      have HKN := hid hkn
      by_cases hat : a2 < 0
      · go_wp2_with fail
        go_ret
        exact ⟨rfl, (HM0.out.trans HL.out.2.1).below _ (Nat.le_refl _) (fun _ h => h.elim)⟩
      obtain ⟨at', rfl⟩ : ∃ at' : Nat, a2 = (at' : Int) := ⟨a2.toNat, by omega⟩
      by_cases hbig : (size : Int) ≤ (at' : Int)
      · go_wp2_with fail
        go_ret
        exact ⟨rfl, (HM0.out.trans HL.out.2.1).below _ (Nat.le_refl _) (fun _ h => h.elim)⟩
      have HR2 : Hid (spRel2 W1 wr p j (frames done).length done.length (.slice (some ⟨g1, 0, none⟩) done.length vc) (.slice (some ⟨g2, 0, none⟩) done.length vd) done (flat st.last 0) (pre + 16 + at') [q0, q1, q2, q3] 0) := hid ⟨S, st, HL.out, HST.out.1.calm, HST.out.2, by rw [HST.out.1.waits]; simp, by rw [tells_rest HST.out.1, oth_zero], HJ.out, HJS.out.1, HV1.out, HV2.out, fun g hg => (HF1.out g hg).1, fun g hg => (HF2.out g hg).1⟩
      have hats : at' + 1 ≤ size := by omega
      have HNG := hid (show g1 < wr.heap.size ∧ g2 < wr.heap.size from ⟨(World.ownsRow.lt HV1.out g1 rfl).2, (World.ownsRow.lt HV2.out g2 rfl).2⟩)
      have HB0 := hid (HM0.out.size)
      have hpb : pre ≤ 1160 ∧ (frames done).length ≤ 1160 := by have := HFL.out.2.2; have := HPS.out; omega
      clear HL HJ HV1 HV2 HF1 HF2
      generalize hF : flat st.last 0 = F at *
      have HFF := hid (show F.take (frames done).length = frames done from HFL.out.1)
      clear hF
      go_wp2_with fail
      clear hc1 hc2
      go_loopw [18, 19, 20, 21, 22] (fun x i _ _ _ wr => ∃ m : Nat, m ≤ 4 ∧ at' + m ≤ size ∧ i = .int .i64 m ∧ x = .bool (!allZ [q0, q1, q2, q3] m) ∧ Hid (spRel2 W1 wr p j (frames done).length done.length (.slice (some ⟨g1, 0, none⟩) done.length vc) (.slice (some ⟨g2, 0, none⟩) done.length vd) done F (pre + 16 + at') [q0, q1, q2, q3] m)) (fun _ i _ _ _ _ => 4 - (intOf i).toNat)
      case atStart => exact ⟨0, by omega, by omega, rfl, by rfl, HR2.out⟩
      case round =>
        obtain ⟨m, hm4, hms, rfl, rfl, hr⟩ := hrel
        clear HR2
        obtain ⟨S2, st2, hl2, hc2, hlen2, hw2, hfl2, hj2, hjS2, hn1, hn2, ho1, ho2⟩ := hr.out
        have HL2 := hid hl2
        have HC2 := hid (And.intro hc2 (And.intro hlen2 (And.intro hw2 hfl2)))
        have HJ2 := hid (And.intro hj2 hjS2)
        have HN1 := hid hn1
        have HN2 := hid hn2
        have HO := hid (And.intro ho1 ho2)
        obtain ⟨g1', e1, _, hcs1⟩ := hn1.cell (k := kk) (by rw [startsL_len]; exact HKN.out)
        obtain ⟨g2', e2, _, hcs2⟩ := hn2.cell (k := kk) (by simp [sizesL]; exact HKN.out)
        obtain rfl : g1 = g1' := by cases e1; rfl
        obtain rfl : g2 = g2' := by cases e2; rfl
        rw [show (startsL done)[kk]'(by rw [startsL_len]; exact HKN.out) = pre + 16 by simp [startsL]; exact HSL.out.2] at hcs1
        rw [show (sizesL done)[kk]'(by simp [sizesL]; exact HKN.out) = size by simp [sizesL]; exact HSL.out.1] at hcs2
        clear e1 e2 hl2 hc2 hlen2 hw2 hfl2 hj2 hjS2 hn1 hn2 ho1 ho2 hr
        by_cases hgo : m < 4 ∧ at' + m < size
        · obtain ⟨hgo4, hgos⟩ := hgo
          have hgo4' : (m : Int) < 4 := by omega
          have hw1 : IntKind.i64.wrap ((size : Int) - (at' : Int)) = (size : Int) - (at' : Int) := wrap_in _ (by omega)
          have hgos' : (m : Int) < (size : Int) - (at' : Int) := by omega
          obtain ⟨sc, hsc, hsc2⟩ : ∃ sc : Nat, ((pre : Int) + 16 + (at' : Int) + (m : Int)) / 64 = (sc : Int) ∧ sc = (pre + 16 + at' + m) / 64 := ⟨_, by omega, rfl⟩
          obtain ⟨r, hr1, hr2⟩ : ∃ r : Nat, ((pre : Int) + 16 + (at' : Int) + (m : Int)) % 64 = (r : Int) ∧ r = (pre + 16 + at' + m) % 64 := ⟨_, by omega, rfl⟩
          have hr64 : r < 64 := by omega
          have hplb : pre + 16 + at' + m < 6400 := by have := HPS.out; omega
          obtain ⟨s, x, hread, hsl, hx, hwr, hcw, hlw, hww, hfw⟩ := sp_step HC2.out.1 HL2.out.ok HC2.out.2.1 HC2.out.2.2.2 (pl := pre + 16 + at' + m) rfl hplb hsc2 hr2
          have HNX := hid (And.intro hwr (And.intro hcw (And.intro hlw (And.intro hww hfw))))
          have hlr := live_read HL2.out (sc : Int)
          rw [hread] at hlr
          have HLR := hid hlr
          have HSX := hid (And.intro hsl hx)
          clear hread hwr hcw hlw hww hfw hlr hsl hx
          have HP4 := hid (And.intro hsc2 hr2)
          clear hsc2 hr2
          go_wp2_with fail
          rw [hsc]
          refine HLR.out.mono ?_
          rintro e w6 ⟨a6, rfl, htold, _, hl6, hm6⟩
          dsimp only
          rw [HSX.out.1]
          rcases htold with ⟨_, hs0⟩ | ⟨b6, rfl, hb6, hbk⟩
          · have h1 : s = [] := hs0
            have := HSX.out.1
            rw [h1] at this; simp at this
          have hbk' : Blk w6 b6 105 (s.map B) := hbk
          have HBK := hid hbk'
          have HB6 := hid hb6
          have HL6 := hid hl6
          have HM6 := hid hm6
          have hc6 : w6.cell? ⟨b6, r, none⟩ = some (.int .u8 (x.toNat : Int)) := hbk'.is (by rw [List.getElem?_map, HSX.out.2]; rfl)
          have hf6 : w6.frozen? ⟨b6, r, none⟩ = false := hbk'.free r
          clear hbk hbk' hb6 hl6 hm6 HLR
          obtain ⟨y, hy⟩ : ∃ y, [q0, q1, q2, q3][m]? = some y := ⟨_, List.getElem?_eq_getElem (by simp; omega)⟩
          have hyb : w6.cell? ⟨w.heap.size, m, none⟩ = some (.int .u8 (y.toNat : Int)) := (HL6.out.2.1.blk HBX.out (fun h => h)).is (by
            rw [show [B q0, B q1, B q2, B q3] = [q0, q1, q2, q3].map B from rfl, List.getElem?_map, hy]; rfl)
          have hxor := xor8 x y
          have HY := hid hy
          clear hy
          go_wp2_with fail
          go_region
          have hxy : ((x.toNat ^^^ y.toNat : Nat) : Int) = ((x ^^^ y).toNat : Int) := by rw [UInt8.toNat_xor]
          rw [hxy]
          have hm7 : Mod (fun z => z = b6) w6 (w6.setCell ⟨b6, r, none⟩ (.int .u8 ((x ^^^ y).toNat : Int))).drew := (Mod.set (S := fun z => z = b6) (Mod.refl _ _) (.inl rfl) _).drew
          have hbk7 : Blk (w6.setCell ⟨b6, r, none⟩ (.int .u8 ((x ^^^ y).toNat : Int))).drew b6 105 ((s.map B).set r (B (x ^^^ y))) := (HBK.out.set r _).drew
          generalize (w6.setCell ⟨b6, r, none⟩ (.int .u8 ((x ^^^ y).toNat : Int))).drew = w7 at *
          have HM7 := hid hm7
          have HL7 := hid ((HL6.out.turn (T := fun z => z = b6) (T' := fun z => z = b6) (.same hm7) (fun z hs e => by have := HL2.out.lt z hs; have := HB6.out; omega) (fun z e => by have := HB6.out; have := HL2.out.2.1.size; omega)).1)
          have HRD7 : Hid (Rd w7 (some ⟨b6, 0, none⟩) (s.set r (x ^^^ y))) := hid (hbk7.rdv 0 (fun i _ => by rw [Nat.zero_add, List.map_set]))
          have hgd : [q0, q1, q2, q3].getD m 0 = y := by rw [List.getD_eq_getElem?_getD, HY.out]; rfl
          rw [hgd] at HNX
          have HLW := hid (live_write HL7.out (sc : Int) (some ⟨b6, 0, none⟩) 64 64 (s.set r (x ^^^ y)) (by rw [List.length_set, HSX.out.1]) HRD7.out (by rw [List.length_set, HSX.out.1]; omega) (by have := HC2.out.2.2.1; omega))
          rw [HNX.out.1] at HLW
          clear hm7 hbk7 hc6 hf6 hyb hgd hxy hxor
          generalize (st2.write (sc : Int) (s.set r (x ^^^ y))).1 = st3 at *
          go_wp2_with fail
          rw [hsc]
          refine HLW.out.mono ?_
          rintro e w8 ⟨S3, rfl, hl8, ht8⟩
          have HL8 := hid hl8
          have hm68 := HM6.out.size
          have HJ8 := hid (ht8.mod.blk (HM7.out.blk (HM6.out.blk HJ2.out.1 (fun h => h)) (fun e => by have := HJ2.out.1.lt; have := HB6.out; omega)) HJ2.out.2)
          have HJS8 := hid (show ¬ S3 j from fun hs => HJ2.out.2 (ht8.old j (Nat.lt_of_lt_of_le HJ2.out.1.lt (Nat.le_trans HM6.out.size HM7.out.size)) hs))
          have hkeep : ∀ (v : Value) (ns : List Nat), NRow wr W1.heap.size v ns → (∀ g, v.ownBlock = some g → ¬ S2 g) → NRow w8 W1.heap.size v ns ∧ ∀ g, v.ownBlock = some g → ¬ S3 g := fun v ns hv ho => by
            have hlt := World.ownsRow.lt hv
            refine ⟨((hv.kept HM6.out (fun _ _ h => h)).kept HM7.out (fun g hg e => by have := (hlt g hg).2; have := HB6.out; omega)).kept ht8.mod ho, fun g hg hs => ho g hg (ht8.old g (Nat.lt_of_lt_of_le (hlt g hg).2 (Nat.le_trans HM6.out.size HM7.out.size)) hs)⟩
          obtain ⟨k1, k2⟩ := hkeep _ _ HN1.out HO.out.1
          obtain ⟨k3, k4⟩ := hkeep _ _ HN2.out HO.out.2
          have HR8 : Hid (spRel2 W1 w8 p j (frames done).length done.length (.slice (some ⟨g1, 0, none⟩) done.length vc) (.slice (some ⟨g2, 0, none⟩) done.length vd) done F (pre + 16 + at') [q0, q1, q2, q3] (m + 1)) := hid ⟨S3, st3, HL8.out, HNX.out.2.1, HNX.out.2.2.1, by have := HNX.out.2.2.2.1; have := HC2.out.2.2.1; omega, HNX.out.2.2.2.2, HJ8.out, HJS8.out, k1, k3, k2, k4⟩
          have hyb8 : w8.cell? ⟨w.heap.size, m, none⟩ = some (.int .u8 (y.toNat : Int)) := (HL8.out.2.1.blk HBX.out (fun h => h)).is (by
            rw [show [B q0, B q1, B q2, B q3] = [q0, q1, q2, q3].map B from rfl, List.getElem?_map, HY.out]; rfl)
          have haz : allZ [q0, q1, q2, q3] (m + 1) = (allZ [q0, q1, q2, q3] m && y == 0) := by
            rw [allZ_succ _ _ (by simp; omega)]
            congr 2
            have := HY.out
            rw [List.getElem?_eq_getElem (by simp; omega)] at this
            injection this
          have HAZ := hid haz
          clear haz k1 k2 k3 k4 hkeep hl8 ht8 HLW HL7 HRD7 HL6 HM6 HM7 HL2 HJ2 HN1 HN2 HO hcs1 hcs2
          cases hz0 : allZ [q0, q1, q2, q3] m
          all_goals
            rw [hz0] at HAZ
            go_wp2_with fail
            go_roundw
            case rel => exact ⟨m + 1, by omega, by omega, by go_num, by rw [HAZ.out]; first | rfl | (rw [Bool.true_and, ← byte_zero]; rfl) | (rw [Bool.true_and, ← byte_zero]; simp), HR8.out⟩
            case measure => simp [intOf]; omega
        · by_cases h4 : m < 4
          · have hgo4' : (m : Int) < 4 := by omega
            have hw1 : IntKind.i64.wrap ((size : Int) - (at' : Int)) = (size : Int) - (at' : Int) := wrap_in _ (by omega)
            have hgos' : ¬ (m : Int) < (size : Int) - (at' : Int) := by omega
            have hjo := sp_end HC2.out.1 HL2.out.ok HC2.out.2.1 HC2.out.2.2.2 done HFF.out (by omega) HFL.out.2.1 HKN.out (at' := at') (by rw [HSL.out.2]) (by rw [HSL.out.1]; exact hms) (by simp; omega) hm4 (by have := HPS.out; omega)
            have hop := open_any W1 wr S2 p st2 HL2.out 0 100 (frames done).length done.length (by rw [HC2.out.2.1]; omega) (by omega) HC2.out.1.down
            rw [hjo] at hop
            have HOP := hid hop
            have HE := hid (end_any HJ2.out.1)
            have HC := hid (count_any HJ2.out.1)
            have HMX := hid HL2.out.2.1
            clear hop hjo HL2 HC2 HN1 HN2 HO HJ2
            generalize (frames done).length = en at *
            cases hz0 : allZ [q0, q1, q2, q3] m
            · rw [hz0, if_neg (by simp)] at HOP
              go_wp2_with fail
              refine HE.out.mono ?_
              rintro e w5 ⟨rfl, rfl⟩
              go_wp2_with fail
              refine HC.out.mono ?_
              rintro e w5 ⟨rfl, rfl⟩
              go_wp2_with fail
              refine HOP.out.mono ?_
              rintro e w5 ⟨hm5, ⟨ls, j2, v, hls, _⟩ | ⟨_, rfl⟩⟩
              · cases hls
              · have HM5 := hid (HMX.out.trans hm5)
                clear hm5 HE HC HOP
                go_wp2_with fail
                go_ret
                exact ⟨rfl, (HM0.out.trans HM5.out).below _ (Nat.le_refl _) (fun _ h => h.elim)⟩
            · rw [hz0, if_pos rfl] at HOP
              go_wp2_with fail
              refine HE.out.mono ?_
              rintro e w5 ⟨rfl, rfl⟩
              go_wp2_with fail
              refine HC.out.mono ?_
              rintro e w5 ⟨rfl, rfl⟩
              go_wp2_with fail
              refine HOP.out.mono ?_
              rintro e w5 ⟨hm5, ⟨ls, j2, v, hls, rfl, _, _, hgot⟩ | ⟨h, _⟩⟩
              · obtain rfl : ls = done := by cases hls; rfl
                obtain ⟨ga, gc, rfl⟩ := hgot.shape
                have HM5 := hid (HMX.out.trans hm5)
                clear hm5 hgot HE HC HOP hls
                go_wp2_with fail
                go_ret
                exact ⟨rfl, (HM0.out.trans HM5.out).below _ (Nat.le_refl _) (fun _ h => h.elim)⟩
              · cases h
          · have hgo4' : ¬ (m : Int) < 4 := by omega
            have hjo := sp_end HC2.out.1 HL2.out.ok HC2.out.2.1 HC2.out.2.2.2 done HFF.out (by omega) HFL.out.2.1 HKN.out (at' := at') (by rw [HSL.out.2]) (by rw [HSL.out.1]; exact hms) (by simp; omega) hm4 (by have := HPS.out; omega)
            have hop := open_any W1 wr S2 p st2 HL2.out 0 100 (frames done).length done.length (by rw [HC2.out.2.1]; omega) (by omega) HC2.out.1.down
            rw [hjo] at hop
            have HOP := hid hop
            have HE := hid (end_any HJ2.out.1)
            have HC := hid (count_any HJ2.out.1)
            have HMX := hid HL2.out.2.1
            clear hop hjo HL2 HC2 HN1 HN2 HO HJ2
            generalize (frames done).length = en at *
            cases hz0 : allZ [q0, q1, q2, q3] m
            · rw [hz0, if_neg (by simp)] at HOP
              go_wp2_with fail
              refine HE.out.mono ?_
              rintro e w5 ⟨rfl, rfl⟩
              go_wp2_with fail
              refine HC.out.mono ?_
              rintro e w5 ⟨rfl, rfl⟩
              go_wp2_with fail
              refine HOP.out.mono ?_
              rintro e w5 ⟨hm5, ⟨ls, j2, v, hls, _⟩ | ⟨_, rfl⟩⟩
              · cases hls
              · have HM5 := hid (HMX.out.trans hm5)
                clear hm5 HE HC HOP
                go_wp2_with fail
                go_ret
                exact ⟨rfl, (HM0.out.trans HM5.out).below _ (Nat.le_refl _) (fun _ h => h.elim)⟩
            · rw [hz0, if_pos rfl] at HOP
              go_wp2_with fail
              refine HE.out.mono ?_
              rintro e w5 ⟨rfl, rfl⟩
              go_wp2_with fail
              refine HC.out.mono ?_
              rintro e w5 ⟨rfl, rfl⟩
              go_wp2_with fail
              refine HOP.out.mono ?_
              rintro e w5 ⟨hm5, ⟨ls, j2, v, hls, rfl, _, _, hgot⟩ | ⟨h, _⟩⟩
              · obtain rfl : ls = done := by cases hls; rfl
                obtain ⟨ga, gc, rfl⟩ := hgot.shape
                have HM5 := hid (HMX.out.trans hm5)
                clear hm5 hgot HE HC HOP hls
                go_wp2_with fail
                go_ret
                exact ⟨rfl, (HM0.out.trans HM5.out).below _ (Nat.le_refl _) (fun _ h => h.elim)⟩
              · cases h
end Go.Proofs.Ytdhhpnfdnoaihaa

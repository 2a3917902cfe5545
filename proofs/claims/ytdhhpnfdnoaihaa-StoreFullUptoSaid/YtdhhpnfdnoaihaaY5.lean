import GoSem.Op.String
import Derived.Lib.Bytealg
import Derived.Shelf.Small.Strs
import Derived.Shelf.Strings.Prefix
import Derived.Ground.NamesProg
import Derived.Test.YtdhhpnfdnoaihaaProg
import Derived.Test.YtdhhpnfdnoaihaaY4
/-! Q1 -/
/- Keys in their order; what a change does to the pairs, as the program does it and as the document says it. -/
namespace Go.Proofs.Ytdhhpnfdnoaihaa

def klt (a b : List UInt8) : Bool := Go.Op.bytesLess a b
theorem klt_nil (a : List UInt8) : klt a [] = false := by cases a <;> rfl
theorem klt_nil_cons (b : UInt8) (y : List UInt8) : klt [] (b :: y) = true := rfl
theorem klt_cons (a b : UInt8) (x y : List UInt8) : klt (a :: x) (b :: y) = true ↔ a.toNat < b.toNat ∨ (a = b ∧ klt x y = true) := by
  unfold klt
  rw [Go.Op.bytesLess, Bool.or_eq_true, Bool.and_eq_true, decide_eq_true_eq, beq_iff_eq, UInt8.lt_iff_toNat_lt]
theorem u8_eq {a b : UInt8} (h : a.toNat = b.toNat) : a = b := UInt8.toNat_inj.1 h
theorem klt_irrefl : ∀ a : List UInt8, klt a a = false
  | [] => rfl
  | a :: x => by
    rw [Bool.eq_false_iff, ne_eq, klt_cons]
    intro h
    rcases h with h | h
    · omega
    · rw [klt_irrefl x] at h; cases h.2
theorem klt_trans : ∀ {a b c : List UInt8}, klt a b = true → klt b c = true → klt a c = true
  | _, [], _, h, _ => by rw [klt_nil] at h; cases h
  | _, _ :: _, [], _, h => by rw [klt_nil] at h; cases h
  | [], _ :: _, _ :: _, _, _ => rfl
  | a :: x, b :: y, c :: z, h, k => by
    rw [klt_cons] at *
    rcases h with h | ⟨rfl, h⟩
    · rcases k with k | ⟨rfl, k⟩
      · exact .inl (by omega)
      · exact .inl h
    · rcases k with k | ⟨rfl, k⟩
      · exact .inl k
      · exact .inr ⟨rfl, klt_trans h k⟩
theorem klt_total : ∀ {a b : List UInt8}, klt a b = false → klt b a = false → a = b
  | [], [], _, _ => rfl
  | [], _ :: _, h, _ => by cases h
  | _ :: _, [], _, h => by cases h
  | a :: x, b :: y, h, k => by
    rw [Bool.eq_false_iff, ne_eq, klt_cons] at *
    have e : a = b := u8_eq (by
      have h1 : ¬ a.toNat < b.toNat := fun e => h (.inl e)
      have h2 : ¬ b.toNat < a.toNat := fun e => k (.inl e)
      omega)
    subst e
    have := klt_total (a := x) (b := y) (by rw [Bool.eq_false_iff]; exact fun e => h (.inr ⟨rfl, e⟩)) (by rw [Bool.eq_false_iff]; exact fun e => k (.inr ⟨rfl, e⟩))
    rw [this]
theorem klt_asymm {a b : List UInt8} (h : klt a b = true) : klt b a = false := by
  rw [Bool.eq_false_iff]; intro k
  have := klt_trans h k
  rw [klt_irrefl] at this; cases this
theorem klt_ne {a b : List UInt8} (h : klt a b = true) : a ≠ b := by
  rintro rfl; rw [klt_irrefl] at h; cases h
/-- strings.Compare, in the order's words -/
theorem compare_klt : ∀ a b : List UInt8, Go.Lib.compareBytes a b = if klt a b = true then -1 else if a = b then 0 else 1
  | [], [] => rfl
  | [], _ :: _ => rfl
  | _ :: _, [] => by simp [Go.Lib.compareBytes, klt_nil]
  | a :: x, b :: y => by
    unfold Go.Lib.compareBytes
    by_cases h1 : a < b
    · rw [if_pos h1, if_pos ((klt_cons a b x y).2 (.inl (UInt8.lt_iff_toNat_lt.1 h1)))]
    · rw [if_neg h1]
      by_cases h2 : b < a
      · have h3 := UInt8.lt_iff_toNat_lt.1 h2
        have hn : ¬ klt (a :: x) (b :: y) = true := by
          rw [klt_cons]; rintro (h | ⟨rfl, _⟩) <;> omega
        have hne : ¬ (a :: x = b :: y) := by
          intro e; injection e with e _; subst e; omega
        rw [if_pos h2, if_neg hn, if_neg hne]
      · have e : a = b := u8_eq (by
          have h3 : ¬ a.toNat < b.toNat := fun h => h1 (UInt8.lt_iff_toNat_lt.2 h)
          have h4 : ¬ b.toNat < a.toNat := fun h => h2 (UInt8.lt_iff_toNat_lt.2 h)
          omega)
        subst e
        rw [if_neg h2, compare_klt x y]
        have e1 : klt (a :: x) (a :: y) = klt x y := by
          cases h : klt x y with
          | true => exact (klt_cons a a x y).2 (.inr ⟨rfl, h⟩)
          | false =>
            rw [Bool.eq_false_iff, ne_eq, klt_cons, h]
            rintro (h | ⟨_, h⟩)
            · omega
            · cases h
        rw [e1]
        simp
/-! pairs and changes -/
structure Ch where
  key : List UInt8
  val : List UInt8
  gone : Bool
deriving DecidableEq, Inhabited
def Rising (l : List Ch) : Prop := l.Pairwise (fun x y => klt x.key y.key = true)
/-- where a key stands, or would stand -/
def cnt (l : List Ch) (k : List UInt8) : Nat := l.countP (fun c => klt c.key k)
def isAt (l : List Ch) (k : List UInt8) : Bool := match l[cnt l k]? with
  | some x => x.key == k
  | none => false
/-- what the program does with a change -/
def stepL (l : List Ch) (c : Ch) : List Ch :=
  if c.gone then (if isAt l c.key then l.eraseIdx (cnt l c.key) else l)
  else if isAt l c.key then l.set (cnt l c.key) c else l.take (cnt l c.key) ++ c :: l.drop (cnt l c.key)
/-- what the document says -/
def doF : Bool → List Ch → Ch → List Ch
  | laid, [], c => if laid then [] else [c]
  | laid, x :: l, c => if x.key = c.key then doF laid l c else if (!laid && klt c.key x.key) = true then c :: x :: doF true l c else x :: doF laid l c
def doL (l : List Ch) (c : Ch) : List Ch := doF c.gone l { c with gone := false }
theorem cnt_le (l : List Ch) (k : List UInt8) : cnt l k ≤ l.length := List.countP_le_length
theorem cnt_cons {x : Ch} {l : List Ch} {k : List UInt8} (h : klt x.key k = true) : cnt (x :: l) k = cnt l k + 1 := List.countP_cons_of_pos (p := fun c : Ch => klt c.key k) h
theorem cnt_zero {l : List Ch} {k : List UInt8} (h : ∀ y ∈ l, klt y.key k = false) : cnt l k = 0 := by
  unfold cnt
  rw [List.countP_eq_zero]
  intro y hy; simp [h y hy]
theorem doF_true {l : List Ch} {c : Ch} (h : ∀ y ∈ l, y.key ≠ c.key) : doF true l c = l := by
  induction l with
  | nil => rfl
  | cons x l ih =>
    unfold doF
    rw [if_neg (h x (by simp)), if_neg (by simp), ih (fun y hy => h y (List.mem_cons_of_mem _ hy))]
/-- where no key is less or equal -/
theorem doF_front {l : List Ch} {c : Ch} (g : Bool) (h : ∀ y ∈ l, klt c.key y.key = true) : doF g l c = if g then l else c :: l := by
  cases g with
  | true => rw [if_pos rfl]; exact doF_true (fun y hy e => klt_ne (h y hy) e.symm)
  | false =>
    rw [if_neg (by simp)]
    cases l with
    | nil => rfl
    | cons x l =>
      have hx := h x (by simp)
      unfold doF
      rw [if_neg (fun e => klt_ne hx e.symm), if_pos (by simp [hx]), doF_true (fun y hy e => klt_ne (h y (List.mem_cons_of_mem _ hy)) e.symm)]
theorem step_do : ∀ {l : List Ch} (_ : Rising l) (c : Ch), stepL l c = doF c.gone l { c with gone := false }
  | [], _, c => by
    unfold stepL doF isAt
    cases hg : c.gone with
    | true => simp
    | false =>
      have e : { c with gone := false } = c := by cases c; simp_all
      simp [e]
  | x :: l, h, c => by
    have hl : Rising l := h.of_cons
    have hx : ∀ y ∈ l, klt x.key y.key = true := fun y hy => List.rel_of_pairwise_cons h hy
    have ih := step_do hl c
    by_cases h1 : klt x.key c.key = true
    · have hc : cnt (x :: l) c.key = cnt l c.key + 1 := cnt_cons h1
      have hi : isAt (x :: l) c.key = isAt l c.key := by unfold isAt; rw [hc, List.getElem?_cons_succ]
      have hs : stepL (x :: l) c = x :: stepL l c := by
        unfold stepL
        rw [hc, hi]
        split
        · split <;> simp
        · split <;> simp
      rw [hs, ih]
      unfold doF
      rw [if_neg (klt_ne h1), if_neg (by simp [klt_asymm h1])]
      cases l <;> rfl
    · rw [Bool.not_eq_true] at h1
      have hc : cnt (x :: l) c.key = 0 := cnt_zero (fun y hy => by
        rcases List.mem_cons.1 hy with rfl | hy
        · exact h1
        · rw [Bool.eq_false_iff]; intro e
          have := klt_trans (hx y hy) e
          rw [h1] at this; cases this)
      have hi : isAt (x :: l) c.key = (x.key == c.key) := by unfold isAt; rw [hc]; rfl
      by_cases h2 : x.key = c.key
      · have hfr : ∀ y ∈ l, klt c.key y.key = true := fun y hy => by rw [← h2]; exact hx y hy
        have hd := doF_front (c := { c with gone := false }) c.gone hfr
        unfold stepL doF
        rw [hc, hi, if_pos h2, hd]
        cases hg : c.gone with
        | true => simp [h2]
        | false =>
          have e : { c with gone := false } = c := by cases c; simp_all
          simp [h2, e]
      · have h3 : klt c.key x.key = true := by
          cases h : klt c.key x.key with
          | true => rfl
          | false => exact absurd (klt_total h1 h) h2
        have hfr : ∀ y ∈ x :: l, klt c.key y.key = true := fun y hy => by
          rcases List.mem_cons.1 hy with rfl | hy
          · exact h3
          · exact klt_trans h3 (hx y hy)
        have hd := doF_front (c := { c with gone := false }) c.gone hfr
        rw [hd]
        unfold stepL
        rw [hc, hi]
        cases hg : c.gone with
        | true => simp [h2]
        | false =>
          have e : { c with gone := false } = c := by cases c; simp_all
          simp [h2, e]
theorem rising_step : ∀ {l : List Ch} (_ : Rising l) (g : Bool) (c : Ch), Rising (doF g l c) ∧ ∀ y ∈ doF g l c, (g = false ∧ y = c) ∨ y ∈ l
  | [], _, g, c => by
    unfold doF
    cases g <;> simp [Rising]
  | x :: l, h, g, c => by
    have hl : Rising l := h.of_cons
    have hx : ∀ y ∈ l, klt x.key y.key = true := fun y hy => List.rel_of_pairwise_cons h hy
    unfold doF
    by_cases h1 : x.key = c.key
    · rw [if_pos h1]
      have hfr : ∀ y ∈ l, klt c.key y.key = true := fun y hy => by rw [← h1]; exact hx y hy
      rw [doF_front g hfr]
      cases g with
      | true => exact ⟨hl, fun y hy => .inr (List.mem_cons_of_mem _ hy)⟩
      | false => exact ⟨List.Pairwise.cons (fun y hy => hfr y hy) hl, fun y hy => by
          rcases List.mem_cons.1 hy with rfl | hy
          · exact .inl ⟨rfl, rfl⟩
          · exact .inr (List.mem_cons_of_mem _ hy)⟩
    · rw [if_neg h1]
      by_cases h2 : (!g && klt c.key x.key) = true
      · rw [if_pos h2]
        have h3 : klt c.key x.key = true := by
          rw [Bool.and_eq_true] at h2; exact h2.2
        have hfr : ∀ y ∈ l, klt c.key y.key = true := fun y hy => klt_trans h3 (hx y hy)
        rw [doF_true (fun y hy e => klt_ne (hfr y hy) e.symm)]
        refine ⟨List.Pairwise.cons (fun y hy => ?_) h, fun y hy => ?_⟩
        · rcases List.mem_cons.1 hy with rfl | hy
          · exact h3
          · exact hfr y hy
        · rcases List.mem_cons.1 hy with rfl | hy
          · exact .inl ⟨by rw [Bool.and_eq_true] at h2; simpa using h2.1, rfl⟩
          · exact .inr hy
      · rw [if_neg h2]
        obtain ⟨i1, i2⟩ := rising_step hl g c
        refine ⟨List.Pairwise.cons (fun y hy => ?_) i1, fun y hy => ?_⟩
        · rcases i2 y hy with ⟨hg, rfl⟩ | hy'
          · subst hg
            have h3 : klt y.key x.key = false := by simpa using h2
            cases h4 : klt x.key y.key with
            | true => rfl
            | false => exact absurd (klt_total h4 h3) h1
          · exact hx y hy'
        · rcases List.mem_cons.1 hy with rfl | hy
          · exact .inr (by simp)
          · exact (i2 y hy).imp id (List.mem_cons_of_mem _)
theorem rising_do {l : List Ch} (h : Rising l) (c : Ch) : Rising (doL l c) := (rising_step h _ _).1
theorem step_eq {l : List Ch} (h : Rising l) (c : Ch) : stepL l c = doL l c := step_do h c
/-- all changes of a batch -/
def allL (l : List Ch) (b : List Ch) : List Ch := b.foldl doL l
theorem rising_all : ∀ (b : List Ch) {l : List Ch}, Rising l → Rising (allL l b)
  | [], _, h => h
  | c :: b, _, h => rising_all b (rising_do h c)
theorem all_steps : ∀ (b : List Ch) {l : List Ch}, Rising l → b.foldl stepL l = allL l b
  | [], _, _ => rfl
  | c :: b, l, h => by
    show b.foldl stepL (stepL l c) = allL (doL l c) b
    rw [step_eq h]; exact all_steps b (rising_do h c)
theorem all_snoc (l b : List Ch) (c : Ch) : allL l (b ++ [c]) = doL (allL l b) c := by simp [allL]
theorem do_len {l : List Ch} (h : Rising l) (c : Ch) : (doL l c).length ≤ l.length + 1 := by
  rw [← step_eq h]
  have := cnt_le l c.key
  unfold stepL
  split
  · split
    · rw [List.length_eraseIdx]; split <;> omega
    · omega
  · split
    · rw [List.length_set]; omega
    · rw [List.length_append, List.length_cons, List.length_take, List.length_drop]; omega
theorem all_len : ∀ (b : List Ch) {l : List Ch}, Rising l → (allL l b).length ≤ l.length + b.length
  | [], _, _ => by simp [allL]
  | c :: b, l, h => by
    have h1 := do_len h c
    have h2 := all_len b (rising_do h c)
    show (allL (doL l c) b).length ≤ _
    rw [List.length_cons]; omega
/-- none that is told is gone -/
def Kept (l : List Ch) : Prop := ∀ y ∈ l, y.gone = false
theorem kept_do {l : List Ch} (hr : Rising l) (h : Kept l) (c : Ch) : Kept (doL l c) := fun y hy => by
  rcases (rising_step hr c.gone { c with gone := false }).2 y hy with ⟨_, rfl⟩ | hy
  · rfl
  · exact h y hy
theorem kept_all : ∀ (b : List Ch) {l : List Ch}, Rising l → Kept l → Kept (allL l b)
  | [], _, _, h => h
  | c :: b, _, hr, h => kept_all b (rising_do hr c) (kept_do hr h c)
/-! what is found -/
theorem isAt_iff {l : List Ch} (h : Rising l) (k : List UInt8) : isAt l k = true ↔ ∃ y ∈ l, y.key = k := by
  induction l with
  | nil => simp [isAt]
  | cons x l ih =>
    have hl : Rising l := h.of_cons
    have hx : ∀ y ∈ l, klt x.key y.key = true := fun y hy => List.rel_of_pairwise_cons h hy
    by_cases h1 : klt x.key k = true
    · have hc : cnt (x :: l) k = cnt l k + 1 := cnt_cons h1
      have hi : isAt (x :: l) k = isAt l k := by unfold isAt; rw [hc, List.getElem?_cons_succ]
      rw [hi, ih hl]
      constructor
      · rintro ⟨y, hy, e⟩; exact ⟨y, List.mem_cons_of_mem _ hy, e⟩
      · rintro ⟨y, hy, e⟩
        rcases List.mem_cons.1 hy with rfl | hy
        · subst e; rw [klt_irrefl] at h1; cases h1
        · exact ⟨y, hy, e⟩
    · rw [Bool.not_eq_true] at h1
      have hc : cnt (x :: l) k = 0 := cnt_zero (fun y hy => by
        rcases List.mem_cons.1 hy with rfl | hy
        · exact h1
        · rw [Bool.eq_false_iff]; intro e
          have := klt_trans (hx y hy) e
          rw [h1] at this; cases this)
      have hi : isAt (x :: l) k = (x.key == k) := by unfold isAt; rw [hc]; rfl
      rw [hi]
      constructor
      · intro e; exact ⟨x, by simp, by simpa using e⟩
      · rintro ⟨y, hy, e⟩
        rcases List.mem_cons.1 hy with rfl | hy
        · simpa using e
        · subst e
          rw [hx y hy] at h1; cases h1
theorem isAt_at {l : List Ch} {k : List UInt8} (h : isAt l k = true) : ∃ x, l[cnt l k]? = some x ∧ x.key = k := by
  unfold isAt at h
  cases e : l[cnt l k]? with
  | none => rw [e] at h; cases h
  | some x => rw [e] at h; exact ⟨x, rfl, by simpa using h⟩
/-! beginnings -/
theorem pre_klt : ∀ {p k : List UInt8}, p.isPrefixOf k = true → klt k p = false
  | [], k, _ => klt_nil k
  | a :: p, [], h => by cases h
  | a :: p, b :: k, h => by
    rw [List.isPrefixOf, Bool.and_eq_true, beq_iff_eq] at h
    obtain ⟨rfl, h⟩ := h
    rw [Bool.eq_false_iff, ne_eq, klt_cons, pre_klt h]
    rintro (h | ⟨_, h⟩)
    · omega
    · cases h
/-- between a beginning and a key that begins so all keys begin so -/
theorem pre_between : ∀ {p x y : List UInt8}, klt x p = false → klt x y = true → p.isPrefixOf y = true → p.isPrefixOf x = true
  | [], x, _, _, _, _ => by cases x <;> rfl
  | a :: p, _, [], _, _, h => by cases h
  | a :: p, [], _ :: _, h, _, _ => by cases h
  | a :: p, b :: x, c :: y, h1, h2, h3 => by
    rw [List.isPrefixOf, Bool.and_eq_true, beq_iff_eq] at h3
    obtain ⟨rfl, h3⟩ := h3
    rw [Bool.eq_false_iff, ne_eq, klt_cons] at h1
    rw [klt_cons] at h2
    have e : b = a := u8_eq (by
      have h4 : ¬ b.toNat < a.toNat := fun h => h1 (.inl h)
      rcases h2 with h2 | ⟨rfl, _⟩
      · omega
      · rfl)
    subst e
    rw [List.isPrefixOf, Bool.and_eq_true]
    refine ⟨by simp, pre_between (y := y) ?_ ?_ h3⟩
    · rw [Bool.eq_false_iff]; exact fun h => h1 (.inr ⟨rfl, h⟩)
    · rcases h2 with h2 | ⟨_, h2⟩
      · omega
      · exact h2
theorem pre_next {p x y : List UInt8} (h1 : klt x p = false) (h2 : klt x y = true) (h3 : p.isPrefixOf x = false) : p.isPrefixOf y = false := by
  rw [Bool.eq_false_iff]; intro h
  rw [pre_between h1 h2 h] at h3; cases h3
/-- those that begin so stand one behind the other -/
theorem under_eq : ∀ {l : List Ch} (_ : Rising l) (p : List UInt8), (l.drop (cnt l p)).takeWhile (fun c => p.isPrefixOf c.key) = l.filter (fun c => p.isPrefixOf c.key)
  | [], _, _ => by simp
  | x :: l, h, p => by
    have hl : Rising l := h.of_cons
    have hx : ∀ y ∈ l, klt x.key y.key = true := fun y hy => List.rel_of_pairwise_cons h hy
    by_cases h1 : klt x.key p = true
    · have hc : cnt (x :: l) p = cnt l p + 1 := cnt_cons h1
      have hn : ¬ p.isPrefixOf x.key = true := fun e => by rw [pre_klt e] at h1; cases h1
      rw [hc, List.drop_succ_cons, List.filter_cons_of_neg (p := fun c : Ch => p.isPrefixOf c.key) hn]
      exact under_eq hl p
    · rw [Bool.not_eq_true] at h1
      have hall : ∀ y ∈ l, klt y.key p = false := fun y hy => by
        rw [Bool.eq_false_iff]; intro e
        have := klt_trans (hx y hy) e
        rw [h1] at this; cases this
      have hc : cnt (x :: l) p = 0 := cnt_zero (fun y hy => by
        rcases List.mem_cons.1 hy with rfl | hy
        · exact h1
        · exact hall y hy)
      have hc2 : cnt l p = 0 := cnt_zero hall
      have ih := under_eq hl p
      rw [hc2, List.drop_zero] at ih
      rw [hc, List.drop_zero]
      cases hp : p.isPrefixOf x.key with
      | true => rw [List.takeWhile_cons_of_pos (p := fun c : Ch => p.isPrefixOf c.key) hp, List.filter_cons_of_pos (p := fun c : Ch => p.isPrefixOf c.key) hp, ih]
      | false =>
        have hno : ∀ y ∈ l, p.isPrefixOf y.key = false := fun y hy => pre_next h1 (hx y hy) hp
        rw [List.takeWhile_cons_of_neg (p := fun c : Ch => p.isPrefixOf c.key) (by simp [hp]), List.filter_cons_of_neg (p := fun c : Ch => p.isPrefixOf c.key) (by simp [hp])]
        symm
        rw [List.filter_eq_nil_iff]
        intro y hy; simp [hno y hy]
end Go.Proofs.Ytdhhpnfdnoaihaa

/-! Q2 -/
/-
  DERIVED: THE SHELF's CONTRACTS AT THIS DUMP, IN PLAIN WORDS (tools/lay-plain.mjs out of 'YtdhhpnfdnoaihaaShelf.lean', which tools/lay-shelf.mjs wrote): THE SAME DECLARATIONS UNDER THE SAME NAMES: 'import', 'namespace', 'open', 'def', 'theorem' AND NOTHING ELSE: no command of the shelf's: FOR A HAND-IN. Each laying: the table of numbers ('.._ren') and one theorem, a field a fact of the dump's own or the kernel's comparison; each contract: ONE APPLICATION.
-/
namespace Go.Proofs
open Go.Shelf
def Try.cmpStr_ren : Go.Shelf.Ren := ⟨fun | 106 => 116 | 213 => 120 | 265 => 122 | n => n, fun | 9 => 9 | 3 => 3 | n => n, fun | n => n⟩
theorem Try.cmpStr : Go.Proofs.Lays.n106 Try.prog Try.cmpStr_ren := {
  mixed := by kernel_rfl
  f106 := Try.func116.trans (congrArg some (by kernel_rfl))
  f213 := Try.func120.trans (congrArg some (by kernel_rfl))
  f265 := Try.func122.trans (congrArg some (by kernel_rfl))
  t3 := Try.underlying3
  a3 := Try.isAgg3
  z3 := Try.sizeOf3
  v3 := Try.zeroValue3
  t9 := Try.underlying9
  a9 := Try.isAgg9
  z9 := Try.sizeOf9
  v9 := Try.zeroValue9 }
def Try.hasPre_ren : Go.Shelf.Ren := ⟨fun | 99 => 96 | 206 => 117 | n => n, fun | 9 => 9 | 4 => 4 | 3 => 3 | n => n, fun | n => n⟩
theorem Try.hasPre : Go.Proofs.Lays.n99 Try.prog Try.hasPre_ren := {
  mixed := by kernel_rfl
  f99 := Try.func96.trans (congrArg some (by kernel_rfl))
  f206 := Try.func117.trans (congrArg some (by kernel_rfl))
  t3 := Try.underlying3
  a3 := Try.isAgg3
  z3 := Try.sizeOf3
  v3 := Try.zeroValue3
  t4 := Try.underlying4
  a4 := Try.isAgg4
  z4 := Try.sizeOf4
  v4 := Try.zeroValue4
  t9 := Try.underlying9
  a9 := Try.isAgg9
  z9 := Try.sizeOf9
  v9 := Try.zeroValue9 }
end Go.Proofs

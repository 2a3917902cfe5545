/- Place, Line, Column. -/
import Derived.Laws.Strings3
import Derived.Test.YtmafdlabbgpacaaC6
namespace Go.Proofs.Ytmafdlabbgpacaa
open Go.RowKit

/-- the greater and the lesser of two, kept whole in a walk -/
def imax (a b : Int) : Int := max a b
def imin (a b : Int) : Int := min a b
noncomputable def mxRun (v u : Value) (w : World) : Result Next := (Sem.run Try.prog (do let x ← Builtin.max_ #[3, 3] 3 #[v, u]; pure (Next.value x) : Sem Next) w)
noncomputable def mnRun (v u : Value) (w : World) : Result Next := (Sem.run Try.prog (do let x ← Builtin.min_ #[3, 3] 3 #[v, u]; pure (Next.value x) : Sem Next) w)
section
variable (ρ : Operand → Value) (dst : Option Tmp) (x y : Operand) (pos : String) (after : Array Edge) (g : Option (Nat × Bool)) (w : World)
@[go_sem ↓] theorem exec_max : (execOp ρ { dst := dst, op := .call { callee := .builtin .max, args := #[x, y], argTypes := #[3, 3] }, type := 3, pos := pos, after := after, guard := g }).run Try.prog w = mxRun (ρ x) (ρ y) w := by
  unfold mxRun
  simp only [execOp, resolve, invoke, builtin, Sem.run_bind, Sem.run_pure, Result.andThen_ok, List.map_toArray, List.map_cons, List.map_nil]
@[go_sem ↓] theorem exec_min : (execOp ρ { dst := dst, op := .call { callee := .builtin .min, args := #[x, y], argTypes := #[3, 3] }, type := 3, pos := pos, after := after, guard := g }).run Try.prog w = mnRun (ρ x) (ρ y) w := by
  unfold mnRun
  simp only [execOp, resolve, invoke, builtin, Sem.run_bind, Sem.run_pure, Result.andThen_ok, List.map_toArray, List.map_cons, List.map_nil]
end
@[go_sem] theorem run_imax (a b : Int) (w : World) : mxRun (.int .i64 a) (.int .i64 b) w = .ok (.value (.int .i64 (imax a b))) w := by
  unfold mxRun imax
  have e : max a b = if b > a then b else a := by split <;> omega
  rw [e]
  simp [Builtin.max_, Builtin.max2]
@[go_sem] theorem run_imin (a b : Int) (w : World) : mnRun (.int .i64 a) (.int .i64 b) w = .ok (.value (.int .i64 (imin a b))) w := by
  unfold mnRun imin
  have e : min a b = if b < a then b else a := by split <;> omega
  rw [e]
  simp [Builtin.min_, Builtin.min2]
def clampN (a : Int) (n : Nat) : Nat := (min (max a 0) (n : Int)).toNat
theorem clamp_if (a : Int) (n : Nat) : imin (imax a 0) (n : Int) = (clampN a n : Int) := by
  unfold clampN imin imax; omega
theorem clamp_le (a : Int) (n : Nat) : clampN a n ≤ n := by unfold clampN; omega
/-- line and column behind the bytes l -/
def posL (l : List UInt8) : Int × Int := l.foldl (fun p c => if c = 10 then (p.1 + 1, 1) else (p.1, p.2 + 1)) (1, 1)
theorem pos_snoc (l : List UInt8) (c : UInt8) : posL (l ++ [c]) = if c = 10 then ((posL l).1 + 1, 1) else ((posL l).1, (posL l).2 + 1) := by simp [posL]
theorem pos_fold (l : List UInt8) : ∀ p : Int × Int, 1 ≤ p.1 → 1 ≤ p.2 → 1 ≤ (l.foldl (fun p c => if c = 10 then (p.1 + 1, 1) else (p.1, p.2 + 1)) p).1 ∧ (l.foldl (fun p c => if c = 10 then (p.1 + 1, 1) else (p.1, p.2 + 1)) p).1 ≤ p.1 + l.length ∧
    1 ≤ (l.foldl (fun p c => if c = 10 then (p.1 + 1, (1 : Int)) else (p.1, p.2 + 1)) p).2 ∧ (l.foldl (fun p c => if c = 10 then (p.1 + 1, 1) else (p.1, p.2 + 1)) p).2 ≤ p.2 + l.length := by
  induction l with
  | nil => intro p h1 h2; simp; omega
  | cons c l ih =>
    intro p h1 h2
    rw [List.foldl_cons, List.length_cons]
    by_cases h : c = 10
    · rw [if_pos h]
      have := ih (p.1 + 1, 1) (by simp; omega) (by simp)
      simp only at this
      omega
    · rw [if_neg h]
      have := ih (p.1, p.2 + 1) (by simpa using h1) (by simp; omega)
      simp only at this
      omega
theorem pos_bound (l : List UInt8) : 1 ≤ (posL l).1 ∧ (posL l).1 ≤ 1 + l.length ∧ 1 ≤ (posL l).2 ∧ (posL l).2 ≤ 1 + l.length := pos_fold l (1, 1) (by simp) (by simp)
def placeL (l : List UInt8) (at' : Int) : Int × Int := posL (l.take (clampN at' l.length))
theorem slice_to (s : ByteArray) (m : Nat) (hm : m ≤ s.size) : ∃ t : ByteArray,
    (∀ w, (Instr.slice 9 (.string s) none (some (.int .i64 (m : Int))) none).run Try.prog w = .ok (.string t) w) ∧ t.data.toList = s.data.toList.take m ∧ t.size = m := by
  have ht : (s.extract 0 m).data.toList = s.data.toList.take m := by
    have : s = ⟨s.data.toList.toArray⟩ := by cases s; simp
    conv => lhs; rw [this, ByteArray.extract_mk]
    simp
  refine ⟨s.extract 0 m, fun w => ?_, ht, ?_⟩
  · have := run_slice_string_to_if (P := Try.prog) w 9 s .i64 (m : Int) und9
    rw [this, if_pos (by omega)]
    rw [Int.toNat_natCast]
  · have := congrArg List.length ht
    simp only [List.length_take, Array.length_toList] at this
    have e : (s.extract 0 m).size = (s.extract 0 m).data.size := rfl
    have e3 : s.data.size = s.size := rfl
    omega
theorem ten (c : UInt8) : ((c.toNat : Int) == 10) = decide (c = 10) := by
  rw [Bool.eq_iff_iff, beq_iff_eq, decide_eq_true_eq]
  constructor
  · intro h
    exact UInt8.toNat_inj.1 (by show c.toNat = 10; omega)
  · rintro rfl; rfl
def PPost (r : Int × Int) (w : World) (e : Ending) (w' : World) : Prop := e = .returned (.tuple #[.int .i64 r.1, .int .i64 r.2]) ∧ Mod None w w'
set_option maxRecDepth 100000 in
set_option maxHeartbeats 800000 in
theorem place_any (w : World) (s : ByteArray) (at' : Int) (hs : s.size ≤ 140737488351232) : Calls Try.prog 14 #[.string s, .int .i64 at'] w (PPost (placeL s.data.toList at') w) := by
  have hlen : s.data.toList.length = s.size := Array.length_toList
  have hp : placeL s.data.toList at' = posL (s.data.toList.take (clampN at' s.size)) := by unfold placeL; rw [hlen]
  rw [hp]
  have hc := clamp_if at' s.size
  have hle := clamp_le at' s.size
  generalize clampN at' s.size = m at *
  obtain ⟨t, hsl, hta, htn⟩ := slice_to s m hle
  have hsl := hsl w
  obtain ⟨cap, w1, hcv, hcell, hm1⟩ := conv_bytes w t
  rw [htn] at hcv
  rw [← hta]
  have htl : t.data.toList.length = m := by rw [Array.length_toList]; exact htn
  generalize t.data.toList = tl at *
  have HTL := hid htl
  have HCELL := hid hcell
  have HM1 := hid hm1
  have hms : (m : Int) ≤ 140737488351232 := by omega
  clear hlen hp hta htn htl hcell hm1
  go_enter Try.func14, Try.ntmps14
  go_wp2_with fail
  clear hsl hcv
  go_loopw [6, 7, 19] (fun a b i wr => ∃ j : Nat, j ≤ m ∧ i = .int .i64 j ∧ a = .int .i64 (posL (tl.take j)).1 ∧ b = .int .i64 (posL (tl.take j)).2 ∧ wr = w1) (fun _ _ i _ => m - (intOf i).toNat)
  case atStart => exact ⟨0, by omega, rfl, rfl, rfl, rfl⟩
  case round =>
    obtain ⟨j, hj, rfl, rfl, rfl, rfl⟩ := hrel
    by_cases hlt : j < m
    · obtain ⟨d, hd⟩ : ∃ d, tl[j]? = some d := ⟨_, List.getElem?_eq_getElem (by have := HTL.out; omega)⟩
      have hcl := HCELL.out j d hd
      have hb := pos_bound (tl.take j)
      have hsn := pos_snoc (tl.take j) d
      rw [← take_snoc hd] at hsn
      have HSN := hid hsn
      have ht := ten d
      have hjl : (tl.take j).length ≤ j := by rw [List.length_take]; omega
      clear hd hsn
      generalize posL (tl.take j) = pj at *
      obtain ⟨pl, pc⟩ := pj
      simp only at hb
      by_cases h10 : d = 10
      · subst h10
        go_wp2_with fail
        go_roundw
        case rel => exact ⟨j + 1, by omega, by go_num, by rw [HSN.out, if_pos rfl], by rw [HSN.out, if_pos rfl], trivial⟩
        case measure => simp [intOf]; omega
      · have HH := hid h10
        rw [decide_eq_false h10] at ht
        go_wp2_with fail
        go_roundw
        case rel => exact ⟨j + 1, by omega, by go_num, by rw [HSN.out, if_neg HH.out], by rw [HSN.out, if_neg HH.out], trivial⟩
        case measure => simp [intOf]; omega
    · obtain rfl : j = m := by omega
      have e1 : tl.take j = tl := by rw [List.take_of_length_le (by rw [HTL.out]; exact Nat.le_refl _)]
      rw [e1]
      go_wp2_with fail
      go_ret2
      exact ⟨rfl, HM1.out⟩
end Go.Proofs.Ytmafdlabbgpacaa

import Derived.Lib.SliceRun
import Derived.ArgAppend
import Derived.Deep.QuietTactic
import Derived.Lib.Overlaps
import Derived.Lib.AppendZerosOnto
import Derived.Test.YtdhhpnfdnoaihaaY5
/-! Q3 -/
/- Where a key stands: the store's find. -/
namespace Go.Proofs.Ytdhhpnfdnoaihaa
open Go.RowKit

/-- a change as cells, and as a value -/
def chC (c : Ch) : List Value := [Str c.key, Str c.val, .bool c.gone]
def chV (c : Ch) : Value := .agg #[Str c.key, Str c.val, .bool c.gone]
def rowC (l : List Ch) : List Value := l.flatMap chC
def nth (l : List Ch) (i : Nat) : Ch := l.getD i ⟨[], [], false⟩
theorem nth_at {l : List Ch} {i : Nat} (h : i < l.length) : nth l i = l[i] := by
  unfold nth; rw [List.getD_eq_getElem?_getD, List.getElem?_eq_getElem h]; rfl
theorem rowC_length (l : List Ch) : (rowC l).length = l.length * 3 := by
  induction l with
  | nil => rfl
  | cons x l ih =>
    have e : rowC (x :: l) = Str x.key :: Str x.val :: .bool x.gone :: rowC l := rfl
    rw [e]; simp only [List.length_cons]; omega
theorem rowC_at (l : List Ch) (i : Nat) (h : i < l.length) : (rowC l)[i * 3]? = some (Str (nth l i).key) ∧ (rowC l)[i * 3 + 1]? = some (Str (nth l i).val) ∧ (rowC l)[i * 3 + 2]? = some (.bool (nth l i).gone) := by
  induction l generalizing i with
  | nil => simp at h
  | cons x l ih =>
    have e : rowC (x :: l) = Str x.key :: Str x.val :: .bool x.gone :: rowC l := rfl
    cases i with
    | zero => rw [e]; simp [nth]
    | succ i =>
      have := ih i (by simpa using h)
      rw [e, show (i + 1) * 3 = i * 3 + 1 + 1 + 1 by omega]
      simp only [List.getElem?_cons_succ]
      simpa [nth] using this
theorem rd_ch {w : World} {a : Option Addr} {l : List Ch} (h : RdV w a (rowC l)) {k : Nat} (hk : k < l.length) :
    ∃ b o, a = some ⟨b, o, none⟩ ∧ w.cell? ⟨b, o + k * 3, none⟩ = some (Str (nth l k).key) ∧ w.cell? ⟨b, o + k * 3 + 1, none⟩ = some (Str (nth l k).val) ∧ w.cell? ⟨b, o + k * 3 + 2, none⟩ = some (.bool (nth l k).gone) := by
  have hlen := rowC_length l
  rcases h with h | ⟨b, o, rfl, hc⟩
  · rw [h] at hlen; simp at hlen; omega
  · obtain ⟨e1, e2, e3⟩ := rowC_at l k hk
    have h1 := hc (k * 3) (by omega)
    have h2 := hc (k * 3 + 1) (by omega)
    have h3 := hc (k * 3 + 2) (by omega)
    rw [e1] at h1
    rw [e2] at h2
    rw [e3] at h3
    exact ⟨b, o, rfl, h1, h2, h3⟩
theorem compare_any (w : World) (a b : List UInt8) : Calls Try.prog 116 #[Str a, Str b] w fun e w' => e = .returned (.int .i64 (Go.Lib.compareBytes a b)) ∧ w' = w :=
  Go.Proofs.Any.strings_Compare Go.Proofs.Try.cmpStr ⟨a.toArray⟩ ⟨b.toArray⟩ w
theorem Mod.cell0 {a b : World} (h : Mod None a b) {p : Addr} {v : Value} (hc : a.cell? p = some v) : b.cell? p = some v := by
  rw [h.cell (World.block_lt_of_cell? a _ hc) (fun h => h)]; exact hc
theorem compare_neg {a b : List UInt8} (h : klt a b = true) : Go.Lib.compareBytes a b = -1 := by rw [compare_klt, if_pos h]
theorem compare_not {a b : List UInt8} (h : klt a b = false) : ¬ Go.Lib.compareBytes a b < 0 := by
  rw [compare_klt, if_neg (by simp [h])]
  split <;> omega
theorem compare_zero {a b : List UInt8} : (Go.Lib.compareBytes a b == 0) = decide (a = b) := by
  rw [compare_klt]
  by_cases h : klt a b = true
  · rw [if_pos h]; simp [klt_ne h]
  · rw [if_neg h]
    by_cases e : a = b
    · rw [if_pos e]; simp [e]
    · rw [if_neg e]; simp [e]
def CPost (v : Value) (w : World) (e : Ending) (w' : World) : Prop := e = .returned v ∧ Mod None w w'
theorem cmp115_any (w : World) (c : Ch) (k : List UInt8) : Calls Try.prog 115 #[chV c, Str k] w (CPost (.int .i64 (Go.Lib.compareBytes c.key k)) w) := by
  have HC := hid (fun w => compare_any w c.key k)
  have HM := hid (fun o => (Mod.refl None w).alloc o)
  unfold Str at HC
  unfold chV Str
  go_enter Try.func115, Try.ntmps115
  go_wp2_with fail
  refine (HC.out _).mono ?_
  rintro e w2 ⟨rfl, rfl⟩
  go_wp2_with fail
  go_ret
  exact ⟨rfl, HM.out _⟩
/-- what has been found when the borders meet -/
theorem cnt_border {l : List Ch} {k : List UInt8} {i : Nat} (hi : i ≤ l.length) (h1 : ∀ t, t < i → klt (nth l t).key k = true) (h2 : ∀ t, i ≤ t → t < l.length → klt (nth l t).key k = false) : cnt l k = i := by
  have e : cnt l k = cnt (l.take i) k + cnt (l.drop i) k := by
    unfold cnt; rw [← List.countP_append, List.take_append_drop]
  have e1 : cnt (l.take i) k = i := by
    have : cnt (l.take i) k = (l.take i).length := by
      unfold cnt
      rw [List.countP_eq_length]
      intro x hx
      obtain ⟨t, ht, rfl⟩ := List.getElem_of_mem hx
      rw [List.length_take] at ht
      have := h1 t (by omega)
      rw [nth_at (by omega)] at this
      rw [List.getElem_take]; exact this
    rw [this, List.length_take]; omega
  have e2 : cnt (l.drop i) k = 0 := cnt_zero (fun y hy => by
    obtain ⟨t, ht, rfl⟩ := List.getElem_of_mem hy
    rw [List.length_drop] at ht
    have := h2 (i + t) (by omega) (by omega)
    rw [nth_at (by omega)] at this
    rw [List.getElem_drop]; exact this)
  omega
theorem rising_at {l : List Ch} (h : Rising l) {i j : Nat} (hij : i < j) (hj : j < l.length) : klt (nth l i).key (nth l j).key = true := by
  rw [nth_at (by omega), nth_at hj]
  exact List.pairwise_iff_getElem.1 h i j (by omega) hj hij
theorem isAt_cnt {l : List Ch} {k : List UInt8} : isAt l k = (decide (cnt l k < l.length) && decide ((nth l (cnt l k)).key = k)) := by
  unfold isAt
  by_cases h : cnt l k < l.length
  · rw [List.getElem?_eq_getElem h, nth_at h]
    rw [decide_eq_true h, Bool.true_and]
    exact Bool.eq_iff_iff.2 (by simp)
  · rw [List.getElem?_eq_none (by omega)]
    simp [h]
set_option maxRecDepth 100000 in
set_option maxHeartbeats 3200000 in
theorem search_any (w : World) (a : Option Addr) (n c : Nat) (l : List Ch) (hn : n = l.length) (hr : RdV w a (rowC l)) (hR : Rising l) (k : List UInt8) (hfew : l.length ≤ 1000000) :
    Calls Try.prog 114 #[.slice a n c, Str k, .func (.func 115) #[] #[]] w (CPost (.tuple #[.int .i64 (cnt l k : Int), .bool (isAt l k)]) w) := by
  have HR := hid hr
  have HRI := hid hR
  have HN := hid hn
  have hn6 : n ≤ 1000000 := by omega
  clear hr hR hn hfew
  unfold Str
  go_enter Try.func114, Try.ntmps114
  go_wp2_with fail
  go_loopw [9, 10] (fun vi vj wr => ∃ (i j : Nat), i ≤ j ∧ j ≤ n ∧ vi = .int .i64 i ∧ vj = .int .i64 j ∧ Hid (Mod None w wr) ∧ Hid ((∀ t, t < i → klt (nth l t).key k = true) ∧ ∀ t, j ≤ t → t < l.length → klt (nth l t).key k = false)) (fun vi vj _ => (intOf vj).toNat - (intOf vi).toNat)
  case atStart => exact ⟨0, n, by omega, by omega, rfl, rfl, Mod.refl _ _, fun t ht => by omega, fun t h1 h2 => by have := HN.out; omega⟩
  case round =>
    obtain ⟨i, j, hij, hj, rfl, rfl, hm, hb⟩ := hrel
    by_cases hlt : i < j
    · have hlt' : (i : Int) < (j : Int) := by omega
      obtain ⟨h, hh⟩ : ∃ h, h = (i + j) / 2 := ⟨_, rfl⟩
      have hw1 : IntKind.u64.wrap ((i : Int) + (j : Int)) = (i : Int) + (j : Int) := by simp [IntKind.wrap, IntKind.bits, IntKind.signed]; omega
      have eh : ((i : Int) + (j : Int)) / 2 = (h : Int) := by omega
      have hln : (h : Int) < (n : Int) := by omega
      have hlh : h < l.length := by have := HN.out; omega
      obtain ⟨b, o, rfl, c1, c2, c3⟩ := rd_ch HR.out hlh
      have d1 := hm.out.cell0 c1
      have d2 := hm.out.cell0 c2
      have d3 := hm.out.cell0 c3
      have HX := hid (fun w => cmp115_any w (nth l h) k)
      have HIJ := hid (And.intro hij (And.intro hh hj))
      cases hk : klt (nth l h).key k with
      | true =>
        rw [compare_neg hk] at HX
        have HK := hid hk
        unfold chV Str at HX
        unfold Str at d1 d2
        clear hk c1 c2 c3 hh
        generalize nth l h = x at d1 d2 d3 HX
        go_wp2_with fail
        refine (HX.out _).mono ?_
        rintro e w3 ⟨rfl, hm3⟩
        have HM3 := hid (hm.out.trans hm3)
        clear hm3 hm d1 d2 d3 HX
        go_wp2_with fail
        go_roundw
        case rel =>
          refine ⟨h + 1, j, by have := HIJ.out; omega, hj, by go_num, rfl, HM3.out, fun t ht => ?_, hb.out.2⟩
          rcases Nat.lt_or_ge t h with hl | hl
          · exact klt_trans (rising_at HRI.out hl hlh) HK.out
          · obtain rfl : t = h := by omega
            exact HK.out
        case measure => have := HIJ.out; simp [intOf]; omega
      | false =>
        have hc := compare_not hk
        have HK := hid hk
        unfold chV Str at HX
        unfold Str at d1 d2
        generalize Go.Lib.compareBytes (nth l h).key k = r at hc HX
        clear hk c1 c2 c3 hh
        generalize nth l h = x at d1 d2 d3 HX
        go_wp2_with fail
        refine (HX.out _).mono ?_
        rintro e w3 ⟨rfl, hm3⟩
        have HM3 := hid (hm.out.trans hm3)
        clear hm3 hm d1 d2 d3 HX
        go_wp2_with fail
        go_roundw
        case rel =>
          refine ⟨i, h, by have := HIJ.out; omega, by have := HIJ.out; omega, rfl, by go_num, HM3.out, hb.out.1, fun t ht htl => ?_⟩
          rcases Nat.lt_or_ge h t with hl | hl
          · rw [Bool.eq_false_iff]; intro e
            have := klt_trans (rising_at HRI.out hl htl) e
            rw [HK.out] at this; cases this
          · obtain rfl : t = h := by omega
            exact HK.out
        case measure => have := HIJ.out; simp [intOf]; omega
    · obtain rfl : i = j := by omega
      have HCN := hid (cnt_border (by have := HN.out; omega) hb.out.1 hb.out.2)
      have hia := isAt_cnt (l := l) (k := k)
      have HV := hid (show ∀ b, b = isAt l k → Ending.returned (Value.tuple #[.int .i64 (i : Int), .bool b]) = .returned (.tuple #[.int .i64 (cnt l k : Int), .bool (isAt l k)]) from fun b hb => by rw [HCN.out, hb])
      rw [HCN.out] at hia
      by_cases hend : i < l.length
      · have hend' : (i : Int) < (n : Int) := by have := HN.out; omega
        obtain ⟨b, o, rfl, c1, c2, c3⟩ := rd_ch HR.out hend
        have d1 := hm.out.cell0 c1
        have d2 := hm.out.cell0 c2
        have d3 := hm.out.cell0 c3
        have HX := hid (fun w => cmp115_any w (nth l i) k)
        have hz := compare_zero (a := (nth l i).key) (b := k)
        rw [decide_eq_true hend, Bool.true_and, ← hz] at hia
        have HIA := hid hia
        unfold chV Str at HX
        unfold Str at d1 d2
        clear hia hz c1 c2 c3
        generalize Go.Lib.compareBytes (nth l i).key k = r at HX HIA
        generalize nth l i = x at d1 d2 d3 HX
        go_wp2_with fail
        refine (HX.out _).mono ?_
        rintro e w3 ⟨rfl, hm3⟩
        have HM3 := hid (hm.out.trans hm3)
        clear hm3 hm d1 d2 d3 HX
        go_wp2_with fail
        go_ret2
        exact ⟨HV.out _ HIA.out.symm, HM3.out⟩
      · have hend' : decide ((i : Int) < (n : Int)) = false := decide_eq_false (by have := HN.out; omega)
        have hend2 : ¬ (i : Int) < (n : Int) := by have := HN.out; omega
        rw [decide_eq_false hend, Bool.false_and] at hia
        have HIA := hid hia
        clear hia
        go_wp2_with fail
        go_ret2
        exact ⟨HV.out _ HIA.out.symm, hm.out⟩
set_option maxRecDepth 100000 in
set_option maxHeartbeats 800000 in
theorem find_any (w : World) (a : Option Addr) (n c : Nat) (l : List Ch) (hn : n = l.length) (hr : RdV w a (rowC l)) (hR : Rising l) (k : List UInt8) (hfew : l.length ≤ 1000000) :
    Calls Try.prog 95 #[.slice a n c, Str k] w (CPost (.tuple #[.int .i64 (cnt l k : Int), .bool (isAt l k)]) w) := by
  have HX := hid (search_any w a n c l hn hr hR k hfew)
  clear hr hR hn hfew
  generalize cnt l k = ci at *
  generalize isAt l k = cb at *
  unfold Str at *
  go_enter Try.func95, Try.ntmps95
  go_wp2_with fail
  refine HX.out.mono ?_
  rintro e w3 ⟨rfl, hm3⟩
  have HM3 := hid hm3
  clear hm3 HX
  go_wp2_with fail
  go_ret2
  exact ⟨rfl, HM3.out⟩
end Go.Proofs.Ytdhhpnfdnoaihaa

/-! Q4 -/
/- Rows of changes: Clone, Delete. -/
namespace Go.Proofs.Ytdhhpnfdnoaihaa
open Go.RowKit

def chZ : Value := .agg #[Str [], Str [], .bool false]
theorem s_und79 : Try.prog.underlying 79 = some (.slice 89) := by kernel_rfl
theorem s_info89 : (Try.prog.info? 89).map (fun i => (i.zero, i.size, i.bytes)) = some (some chZ, 3, 40) := by kernel_rfl
theorem run_empty79 (w : World) : (Instr.buildSlice 79 0 #[]).run Try.prog w = .ok (.slice (some ⟨w.heap.size, 0, none⟩) 0 0) (w.alloc (.cells #[] 89)) := by
  obtain ⟨i, hi, hz, hs, hb⟩ := info_parts s_info89
  simp only [Instr.buildSlice, Sem.run_bind, run_underlying s_und79, Result.andThen_ok, sizeOf, typeInfo, hi, run_program]
  simp [hs, Instr.fill, newRow]
  have e : ∀ f : Nat → Value, (Array.range 0).map f = #[] := fun f => by apply Array.ext <;> simp
  rw [e]
section
variable (ρ : Operand → Value) (dst : Option Tmp) (ty : TypeId) (pos : String) (after : Array Edge) (g : Option (Nat × Bool)) (w : World)
@[go_sem ↓] theorem exec_emp79 : (execOp ρ { dst := dst, op := .buildSlice 79 0 #[], type := ty, pos := pos, after := after, guard := g }).run Try.prog w = .ok (.value (.slice (some ⟨w.heap.size, 0, none⟩) 0 0)) (w.alloc (.cells #[] 89)) := by
  simp only [execOp, List.map_toArray, List.map_nil, Sem.run_bind, run_empty79, Result.andThen_ok]; rfl
end
theorem ch_ones (c : Ch) : Ones (chC c) := by
  intro v hv; simp [chC] at hv; rcases hv with rfl | rfl | rfl <;> rfl
theorem rowC_ones (l : List Ch) : Ones (rowC l) := by
  intro v hv
  unfold rowC at hv
  rw [List.mem_flatMap] at hv
  obtain ⟨x, _, hx⟩ := hv
  exact ch_ones x v hx
set_option maxRecDepth 100000 in
set_option maxHeartbeats 800000 in
theorem clone97_any (w : World) (a : Option Addr) (n c : Nat) (xs : List Value) (hl : xs.length = n * 3) (hr : RdV w a xs) (h1 : Ones xs) (hn : n < 3000000000000) :
    Calls Try.prog 97 #[.slice a n c] w (ClonePost 89 3 n xs w) := by
  obtain ⟨i, hi, hz, hs, hb⟩ := info_parts s_info89
  cases a with
  | none =>
    have hx : xs = [] := by
      rcases hr with h | ⟨_, _, h, _⟩
      · exact h
      · cases h
    subst hx
    obtain rfl : n = 0 := by
      have : n * 3 = 0 := by simpa using hl.symm
      omega
    have hcmp := Lib.run_eql_slice_nil (P := Try.prog) w 79 89 none 0 c 0 0 s_und79
    clear hn hl hr
    go_enter Try.func97, Try.ntmps97
    go_wp2
    go_ret
    exact ⟨none, 0, rfl, World.ownsRow_nil _ _ _ _, Mod.refl _ _, fun g hg => by cases hg⟩
  | some a =>
  have HR := hid hr
  have HH := hid (And.intro hl h1)
  have HN := hid hn
  clear hr hl h1 hn
  have hcmp := Lib.run_eql_slice_nil (P := Try.prog) w 79 89 (some a) n c 0 0 s_und79
  go_enter Try.func97, Try.ntmps97
  go_wp2_with (at_builtin; go_loud (refine wpList_plain rfl (fun K hK => wp_append_R (.tmp 5) (.tmp 6) 79 rfl 89 i chZ 3 40 s_und79 hi hz hs hb rfl (by decide) _ 0 [] rfl (owns_empty w 89 3) _ n c xs rfl HH.out.1 (((Mod.refl None w).alloc _).rdv HR.out (fun _ _ h => h)) HH.out.2 (by have := HN.out; unfold maxLen; omega) (by have := HN.out; omega) (fun va vc w' h2 h3 h4 => hK _ _ ?_))); have HP := hid (clone_end h2.out h3.out h4.out); clear h2 h3 h4)
  go_ret
  exact HP.out
end Go.Proofs.Ytdhhpnfdnoaihaa

/-! Q5 -/
/- A change is taken out of a row: slices.Delete. -/
namespace Go.Proofs.Ytdhhpnfdnoaihaa
open Go.RowKit

theorem Blk.setCells {g : Nat} {t : TypeId} : ∀ (vs : List Value) {w : World} {o : Nat} {cs : List Value}, Blk w g t cs → o + vs.length ≤ cs.length → Blk (w.setCells g o vs) g t (cs.take o ++ vs ++ cs.drop (o + vs.length))
  | [], w, o, cs, h, _ => by
    have e : cs.take o ++ [] ++ cs.drop (o + ([] : List Value).length) = cs := by simp
    rw [e]; exact h
  | v :: r, w, o, cs, h, hl => by
    have h1 := h.set o v
    have h2 := Blk.setCells r (w := w.setCell ⟨g, o, none⟩ v) (o := o + 1) h1 (by rw [List.length_set]; simp at hl; omega)
    have e : (cs.set o v).take (o + 1) ++ r ++ (cs.set o v).drop (o + 1 + r.length) = cs.take o ++ v :: r ++ cs.drop (o + (v :: r).length) := by
      have ho : o < cs.length := by simp at hl; omega
      rw [List.drop_set_of_lt (by omega), List.take_set, List.take_add_one, List.getElem?_eq_getElem ho]
      rw [List.set_append_right _ _ (by rw [List.length_take]; omega)]
      rw [List.length_take, Nat.min_eq_left (by omega), Nat.sub_self]
      simp [Nat.add_assoc, Nat.add_comm 1]
    rw [e] at h2
    exact h2
theorem Mod.setCells {S : Nat → Prop} {g : Nat} : ∀ (vs : List Value) {a b : World} {o : Nat}, Mod S a b → S g ∨ a.heap.size ≤ g → Mod S a (b.setCells g o vs)
  | [], _, _, _, h, _ => h
  | v :: r, _, _, _, h, hg => Mod.setCells r (h.set hg v) hg
theorem run_clear1 (w : World) (ty : TypeId) (g o c : Nat) (hc : ∀ j, j < 3 → (w.cell? ⟨g, o + j, none⟩).isSome = true) (hf : ∀ j, j < 3 → w.frozen? ⟨g, o + j, none⟩ = false) :
    (Builtin.clear_ #[79] ty #[.slice (some ⟨g, o, none⟩) 1 c]).run Try.prog w = .ok (.tuple #[]) (w.setCells g o [Str [], Str [], .bool false]) := by
  have hz : (zeroValue 89).run Try.prog w = .ok chZ w := by kernel_rfl
  have hl : (Builtin.zeroCells chZ.cells 1).toList = [Str [], Str [], .bool false] := by kernel_rfl
  have hst := run_storeCells_cells (P := Try.prog) g o [Str [], Str [], .bool false] 0 w (by simpa using hc) (by simpa using hf) (by intro u hu; simp at hu; rcases hu with rfl | rfl | rfl <;> rfl)
  simp only [Nat.add_zero] at hst
  simp [Builtin.clear_, run_underlying s_und79, hz, hl, hst]
/-- the row that is left -/
theorem del_cells (l : List Ch) (rest : List Value) (i : Nat) (hi : i < l.length) :
    let cs := rowC l ++ rest
    let news := rowC (l.drop (i + 1))
    let cs1 := cs.take (i * 3) ++ news ++ cs.drop (i * 3 + news.length)
    cs1.take ((l.length - 1) * 3) ++ [Str [], Str [], .bool false] ++ cs1.drop ((l.length - 1) * 3 + 3) = rowC (l.eraseIdx i) ++ ([Str [], Str [], .bool false] ++ rest) := by
  intro cs news cs1
  have hl := rowC_length l
  have hsplit : rowC l = rowC (l.take i) ++ rowC (l.drop i) := by
    conv => lhs; rw [← List.take_append_drop i l]
    unfold rowC; rw [List.flatMap_append]
  have ht : (rowC (l.take i)).length = i * 3 := by rw [rowC_length, List.length_take]; omega
  have hn : news.length = (l.length - 1) * 3 - i * 3 := by show (rowC _).length = _; rw [rowC_length, List.length_drop]; omega
  have he : rowC (l.eraseIdx i) = rowC (l.take i) ++ news := by
    show rowC _ = rowC _ ++ rowC _
    rw [List.eraseIdx_eq_take_drop_succ]; unfold rowC; rw [List.flatMap_append]
  have e1 : cs.take (i * 3) = rowC (l.take i) := by
    show (rowC l ++ rest).take _ = _
    rw [hsplit, List.append_assoc, ← ht, List.take_left]
  have hcs : cs.length = l.length * 3 + rest.length := by show (rowC l ++ rest).length = _; rw [List.length_append, hl]
  have e2 : (cs1.take ((l.length - 1) * 3)) = rowC (l.eraseIdx i) := by
    show (cs.take (i * 3) ++ news ++ cs.drop (i * 3 + news.length)).take _ = _
    rw [e1, he]
    have : ((l.length - 1) * 3) = (rowC (l.take i) ++ news).length := by rw [List.length_append, ht, hn]; omega
    rw [this, List.take_left]
  have e3 : cs1.drop ((l.length - 1) * 3 + 3) = rest := by
    show (cs.take (i * 3) ++ news ++ cs.drop (i * 3 + news.length)).drop _ = _
    have h1 : (cs.take (i * 3) ++ news).length = (l.length - 1) * 3 := by rw [e1, List.length_append, ht, hn]; omega
    rw [← List.drop_drop, ← h1, List.drop_left, List.drop_drop]
    show (rowC l ++ rest).drop _ = _
    rw [hn, show i * 3 + ((l.length - 1) * 3 - i * 3) + 3 = (rowC l).length by rw [hl]; omega, List.drop_left]
  rw [e2, e3, List.append_assoc]
end Go.Proofs.Ytdhhpnfdnoaihaa

/-! Q6 -/
/- slices.Delete of one change, walked. -/
namespace Go.Proofs.Ytdhhpnfdnoaihaa
open Go.RowKit

/-- append in place -/
theorem wp_append_in {w : World} {o : Oper} {a : Act} {K : Act → World → Prop} {Q : Exit → Act → World → Prop} (s x : Operand)
    (ho : o.op = .call { callee := .builtin .append, args := #[s, x], argTypes := #[79, 79] })
    (g i c m c2 : Nat) (A : Addr) (news : List Value) (hs : a.eval s = .slice (some ⟨g, 0, none⟩) i c) (hx : a.eval x = .slice (some A) m c2) (hl : news.length = m * 3)
    (hnews : ∀ j u, news[j]? = some u → w.cell? (A.add j) = some u) (h1 : Ones news) (hroom : i + m ≤ c)
    (hc : ∀ j, j < news.length → (w.cell? ⟨g, i * 3 + j, none⟩).isSome = true) (hf : ∀ j, j < news.length → w.frozen? ⟨g, i * 3 + j, none⟩ = false)
    (h : K (a.put o.dst (.slice (some ⟨g, 0, none⟩) (i + m) c)) (w.setCells g (i * 3) news)) : o.wp Try.prog a w K Q := by
  obtain ⟨it, hi, hz, hsz, hby⟩ := info_parts s_info89
  have hr := run_append_room_cells (P := Try.prog) (w := w) 79 o.type 89 it s_und79 hi g 0 i c A m c2 news (by rw [hsz]; exact hl) hnews h1 hroom (by rw [hsz, Nat.zero_add]; exact hc) (by rw [hsz, Nat.zero_add]; exact hf)
  rw [hsz, Nat.zero_add] at hr
  unfold Oper.wp execOp
  simp only [ho, resolve, invoke, builtin, Sem.run_bind, Sem.run_pure, Result.andThen_ok, List.map_toArray, List.map_cons, List.map_nil, hs, hx, hr]
  exact h
def DelPost (g c : Nat) (l : List Ch) (i : Nat) (rest : List Value) (w : World) (e : Ending) (w' : World) : Prop :=
  e = .returned (.slice (some ⟨g, 0, none⟩) (l.length - 1) c) ∧ Blk w' g 89 (rowC (l.eraseIdx i) ++ ([Str [], Str [], .bool false] ++ rest)) ∧ Mod (fun k => k = g) w w'
section
variable {w : World} {g c : Nat} {l : List Ch} {rest : List Value} {i m : Nat}
/-- what moves down -/
theorem del_news (hb : Blk w g 89 (rowC l ++ rest)) (hm : l.length = i + 1 + m) : ∀ j u, (rowC (l.drop (i + 1)))[j]? = some u → w.cell? ((⟨g, (i + 1) * 3, none⟩ : Addr).add j) = some u := by
  intro j u hj
  have hlr := rowC_length l
  have hsplit : rowC l = rowC (l.take (i + 1)) ++ rowC (l.drop (i + 1)) := by
    conv => lhs; rw [← List.take_append_drop (i + 1) l]
    unfold rowC; rw [List.flatMap_append]
  have ht : (rowC (l.take (i + 1))).length = (i + 1) * 3 := by rw [rowC_length, List.length_take]; omega
  rw [addr_add, hb.cell, hsplit, List.append_assoc, List.getElem?_append_right (by omega), ht, Nat.add_sub_cancel_left, List.getElem?_append_left (List.getElem?_eq_some_iff.1 hj).1]
  exact hj
theorem del_cells_some (hb : Blk w g 89 (rowC l ++ rest)) (j : Nat) (hj : j < l.length * 3) : (w.cell? ⟨g, j, none⟩).isSome = true := by
  have hlr := rowC_length l
  rw [hb.cell, List.getElem?_append_left (by omega), List.getElem?_eq_getElem (by omega)]; rfl
/-- the row behind the two steps -/
theorem del_end (hb : Blk w g 89 (rowC l ++ rest)) (hi : i < l.length) (hm : l.length = i + 1 + m) (w2 : World) (hw : (w.drew.setCells g (i * 3) (rowC (l.drop (i + 1)))) = w2) :
    (∀ j, j < 3 → (w2.cell? ⟨g, (i + m) * 3 + j, none⟩).isSome = true) ∧ (∀ j, j < 3 → w2.frozen? ⟨g, (i + m) * 3 + j, none⟩ = false) ∧ DelPost g c l i rest w (.returned (.slice (some ⟨g, 0, none⟩) (i + m) c)) (w2.setCells g ((i + m) * 3) [Str [], Str [], .bool false]) := by
  have hlr := rowC_length l
  have hn : (rowC (l.drop (i + 1))).length = m * 3 := by rw [rowC_length, List.length_drop]; omega
  have h1 := Blk.setCells (rowC (l.drop (i + 1))) (o := i * 3) hb.drew (by rw [List.length_append]; omega)
  rw [hw] at h1
  have hlen1 : ((rowC l ++ rest).take (i * 3) ++ rowC (l.drop (i + 1)) ++ (rowC l ++ rest).drop (i * 3 + (rowC (l.drop (i + 1))).length)).length = (rowC l ++ rest).length := by
    simp only [List.length_append, List.length_take, List.length_drop]; omega
  have hm1 : Mod (fun k => k = g) w w2 := by
    rw [← hw]; exact Mod.setCells _ ((Mod.refl _ w).drew) (.inl rfl)
  have e : l.length - 1 = i + m := by omega
  refine ⟨fun j hj => ?_, fun j _ => h1.free _, by rw [e], ?_, Mod.setCells _ hm1 (.inl rfl)⟩
  · rw [h1.cell, List.getElem?_eq_getElem (by rw [hlen1, List.length_append]; omega)]; rfl
  · have h2 := Blk.setCells [Str [], Str [], .bool false] (o := (i + m) * 3) h1 (by rw [hlen1, List.length_append]; simp; omega)
    have := del_cells l rest i hi
    simp only [e] at this
    rw [← this]
    exact h2
end
set_option maxRecDepth 100000 in
set_option maxHeartbeats 3200000 in
theorem delete_any (w : World) (g c : Nat) (l : List Ch) (rest : List Value) (hb : Blk w g 89 (rowC l ++ rest)) (hlen : (rowC l ++ rest).length = c * 3) (hc : c ≤ maxLen) (i : Nat) (hi : i < l.length) (hfew : l.length ≤ 1000000) :
    Calls Try.prog 107 #[.slice (some ⟨g, 0, none⟩) l.length c, .int .i64 (i : Int), .int .i64 ((i : Int) + 1)] w (DelPost g c l i rest w) := by
  obtain ⟨m, hm⟩ : ∃ m, l.length = i + 1 + m := ⟨l.length - (i + 1), by omega⟩
  have hlr := rowC_length l
  have hlc : l.length ≤ c := by rw [List.length_append] at hlen; omega
  have hn1 : ((rowC (l.drop (i + 1))).length) = m * 3 := by rw [rowC_length, List.length_drop]; omega
  have hne : ((i : Int) == (i : Int) + 1) = false := by simp; omega
  have HCS := hid (fun j (hj : j < (rowC (l.drop (i + 1))).length) => del_cells_some hb.drew (i * 3 + j) (by omega))
  have HFS := hid (fun j (_ : j < (rowC (l.drop (i + 1))).length) => hb.drew.free (i * 3 + j))
  have HNW := hid (del_news hb.drew hm)
  have HON := hid (rowC_ones (l.drop (i + 1)))
  have HE := hid (fun w2 hw => del_end (c := c) hb hi hm w2 hw)
  have HM := hid hm
  have HH := hid hn1
  have hlim : i + 1 + m ≤ 1000000 := by omega
  by_cases hci : c = i + 1
  · obtain rfl : m = 0 := by omega
    have hnil : rowC (l.drop (i + 1)) = [] := List.eq_nil_of_length_eq_zero (by omega)
    rw [hnil] at HE
    have HZ : Hid (∀ w2, w.drew = w2 → (∀ j, j < 3 → (w2.cell? ⟨g, i * 3 + j, none⟩).isSome = true) ∧ (∀ j, j < 3 → w2.frozen? ⟨g, i * 3 + j, none⟩ = false) ∧ DelPost g c l i rest w (.returned (.slice (some ⟨g, 0, none⟩) i c)) (w2.setCells g (i * 3) [Str [], Str [], .bool false])) := HE
    clear HCS HFS HNW HON HE HH HM hnil hn1 hlr
    rw [Nat.add_zero] at hm hlim
    rw [hm] at hlc ⊢
    subst hci
    clear hb hlen hi hm hfew
    have hic : i ≤ i + 1 := by omega
    have hi0 : (0 : Int) ≤ (i : Int) + 1 := by omega
    have hi1 : (0 : Int) ≤ (i : Int) := by omega
    have hi2 : (i : Int) ≤ (i : Int) + 1 := by omega
    have hc9 : ¬ (i + 1 = i) := by omega
    have hsub : i + 1 - i = 1 := by omega
    have hsub0 : i + 1 - (i + 1) = 0 := by omega
    go_enter Try.func107, Try.ntmps107
    go_wp2_with fail
    go_region_law (refine step_of rfl (wp_append_in (.tmp 22) (.tmp 25) rfl g i (i + 1) 0 0 ⟨g, 0, none⟩ [] rfl rfl rfl (fun _ _ h => by simp at h) (fun _ h => by simp at h) (by omega) (fun _ h => by simp at h) (fun _ h => by simp at h) ?_))
    all_goals
      obtain ⟨q1, q2, q3⟩ := HZ.out (w.drew.setCells g (i * 3) []) rfl
      have HQ := hid q3
      clear q3
      generalize w.drew.setCells g (i * 3) [] = w2 at q1 q2 HQ ⊢
      have HCL := run_clear1 w2 0 g (i * 3) 1 q1 q2
      clear q1 q2
      go_wp2_with fail
      go_ret
      exact HQ.out
  · rw [hm] at hlc ⊢
    unfold maxLen at hc
    clear hb hlen hi hm hn1 hlr hfew
    generalize rowC (l.drop (i + 1)) = news at *
    have hic : i ≤ c := by omega
    have hic1 : i + 1 ≤ c := by omega
    have hic2 : i + 1 ≤ i + 1 + m := by omega
    have hne2 : ¬ (c = i + 1) := hci
    have hi0 : (0 : Int) ≤ (i : Int) + 1 := by omega
    have hi1 : (i : Int) + 1 ≤ (i : Int) + 1 + (m : Int) := by omega
    go_enter Try.func107, Try.ntmps107
    go_wp2_with fail
    go_region_law (refine step_of rfl (wp_append_in (.tmp 22) (.tmp 25) rfl g i c m _ _ news rfl rfl HH.out HNW.out HON.out (by omega) HCS.out HFS.out ?_))
    all_goals
      have hc9 : ¬ (c = i + m) := by omega
      have hc8 : i + m ≤ i + 1 + m := by omega
      have hc7 : i + 1 + m ≤ c := by omega
      have hc6 : (i : Int) + (m : Int) ≤ (i : Int) + 1 + (m : Int) := by omega
      have hc5 : (0 : Int) ≤ (i : Int) + (m : Int) := by omega
      have hsub : i + 1 + m - (i + m) = 1 := by omega
      obtain ⟨q1, q2, q3⟩ := HE.out _ rfl
      have HQ := hid q3
      clear q3
      generalize w.drew.setCells g (i * 3) news = w2 at q1 q2 HQ ⊢
      have HCL := run_clear1 w2 0 g ((i + m) * 3) (c - (i + m)) q1 q2
      clear q1 q2
      go_wp2_with fail
      go_ret
      exact HQ.out
end Go.Proofs.Ytdhhpnfdnoaihaa

/-! Q7 -/
/- A change is put into a row: slices.Insert. -/
namespace Go.Proofs.Ytdhhpnfdnoaihaa
open Go.RowKit

section
variable {w : World}
theorem run_copy79 (ty : TypeId) (b o dLen dCap : Nat) (p : Addr) (sLen sCap k : Nat) (cs : List Value) (hk : Nat.min sLen dLen = k) (hn : cs.length = k * 3)
    (hsrc : ∀ j v, cs[j]? = some v → w.cell? (p.add j) = some v) (hc : ∀ j, j < cs.length → (w.cell? ⟨b, o + j, none⟩).isSome = true) (hf : ∀ j, j < cs.length → w.frozen? ⟨b, o + j, none⟩ = false) (h1 : Ones cs) :
    (Builtin.copy_ #[79, 79] ty #[.slice (some ⟨b, o, none⟩) dLen dCap, .slice (some p) sLen sCap]).run Try.prog w = .ok (goInt k) (w.setCells b o cs) := by
  obtain ⟨i, hi, hz, hsz, hby⟩ := info_parts s_info89
  have hl := run_firstCells_some (P := Try.prog) w 3 k p sLen sCap cs hn hsrc
  have hst := run_storeCells_cells (P := Try.prog) b o cs 0 w (by simpa using hc) (by simpa using hf) h1
  subst hk
  simp [Builtin.copy_, run_underlying s_und79, Builtin.lenOf, sizeOf, typeInfo, hi, hsz, hl, hst]
theorem wp_copy_eq {o : Oper} {a : Act} {K : Act → World → Prop} {Q : Exit → Act → World → Prop} (d s : Operand)
    (ho : o.op = .call { callee := .builtin .copy, args := #[d, s], argTypes := #[79, 79] }) (v u : Value) (hd : a.eval d = v) (hs : a.eval s = u) {v' : Value} {w' : World}
    (hr : (Builtin.copy_ #[79, 79] o.type #[v, u]).run Try.prog w = .ok v' w') (h : K (a.put o.dst v') w') : o.wp Try.prog a w K Q := by
  unfold Oper.wp execOp
  simp only [ho, resolve, invoke, builtin, Sem.run_bind, Sem.run_pure, Result.andThen_ok, List.map_toArray, List.map_cons, List.map_nil, hd, hs, hr]
  exact h
theorem wp_append_eq {o : Oper} {a : Act} {K : Act → World → Prop} {Q : Exit → Act → World → Prop} (d s : Operand) (t t' : TypeId)
    (ho : o.op = .call { callee := .builtin .append, args := #[d, s], argTypes := #[t, t'] }) (v u : Value) (hd : a.eval d = v) (hs : a.eval s = u) {v' : Value} {w' : World}
    (hr : (Builtin.append_ #[t, t'] o.type #[v, u]).run Try.prog w = .ok v' w') (h : K (a.put o.dst v') w') : o.wp Try.prog a w K Q := by
  unfold Oper.wp execOp
  simp only [ho, resolve, invoke, builtin, Sem.run_bind, Sem.run_pure, Result.andThen_ok, List.map_toArray, List.map_cons, List.map_nil, hd, hs, hr]
  exact h
theorem Blk.shape {b : Nat} {t : TypeId} {cs : List Value} (h : Blk w b t cs) : w.shape? b = some (t, cs.length) := by
  unfold Blk at h; unfold World.shape?; rw [h]; simp
end
/-- a row with a change more -/
def insL (l : List Ch) (i : Nat) (x : Ch) : List Ch := l.take i ++ x :: l.drop i
theorem insL_length {l : List Ch} {i : Nat} {x : Ch} : (insL l i x).length = l.length + 1 := by
  unfold insL; rw [List.length_append, List.length_cons, List.length_take, List.length_drop]; omega
def InsPost (v : Value) (l : List Ch) (i : Nat) (x : Ch) (w : World) (e : Ending) (w' : World) : Prop :=
  ∃ a c, e = .returned (.slice a (l.length + 1) c) ∧ w'.ownsRow 0 89 3 (.slice a (l.length + 1) c) (l.length + 1) (rowC (insL l i x)) ∧ Mod (fun k => v.ownBlock = some k) w w' ∧ ∀ g, (Value.slice a (l.length + 1) c).ownBlock = some g → v.ownBlock = some g ∨ w.heap.size ≤ g
theorem rowC_append (a b : List Ch) : rowC (a ++ b) = rowC a ++ rowC b := List.flatMap_append
theorem rowC_cons (x : Ch) (b : List Ch) : rowC (x :: b) = chC x ++ rowC b := rfl
theorem rowC_split (l : List Ch) (i : Nat) : rowC l = rowC (l.take i) ++ rowC (l.drop i) := by rw [← rowC_append, List.take_append_drop]
theorem chC_length (x : Ch) : (chC x).length = 3 := rfl
theorem src_blk {w : World} {b : Nat} {t : TypeId} {cs vs : List Value} (h : Blk w b t cs) (o : Nat) (hv : ∀ j v, vs[j]? = some v → cs[o + j]? = some v) : ∀ j v, vs[j]? = some v → w.cell? ((⟨b, o, none⟩ : Addr).add j) = some v := by
  intro j v hj
  rw [addr_add, h.cell]; exact hv j v hj
/-- what moves up -/
theorem ins_news {l : List Ch} {rest : List Value} {i : Nat} (hi : i ≤ l.length) : ∀ j v, (rowC (l.drop i))[j]? = some v → (rowC l ++ rest)[i * 3 + j]? = some v := by
  intro j v hj
  have ht : (rowC (l.take i)).length = i * 3 := by rw [rowC_length, List.length_take]; omega
  rw [rowC_split l i, List.append_assoc, List.getElem?_append_right (by omega), ht, Nat.add_sub_cancel_left, List.getElem?_append_left (List.getElem?_eq_some_iff.1 hj).1]
  exact hj
/-- the row behind the two copies: what moves up first, then what is new -/
theorem ins_cells {l : List Ch} {cs : List Value} {i : Nat} {x : Ch} (hi : i ≤ l.length) (hcs : cs.take (i * 3) = rowC (l.take i)) (hlen : (l.length + 1) * 3 ≤ cs.length) :
    let c1 := cs.take ((i + 1) * 3) ++ rowC (l.drop i) ++ cs.drop ((i + 1) * 3 + (rowC (l.drop i)).length)
    c1.take (i * 3) ++ chC x ++ c1.drop (i * 3 + (chC x).length) = rowC (insL l i x) ++ cs.drop ((l.length + 1) * 3) := by
  intro c1
  have hn : (rowC (l.drop i)).length = (l.length - i) * 3 := by rw [rowC_length, List.length_drop]
  have hlt : (cs.take ((i + 1) * 3)).length = (i + 1) * 3 := by rw [List.length_take]; omega
  have e1 : c1.take (i * 3) = rowC (l.take i) := by
    show (cs.take ((i + 1) * 3) ++ _ ++ _).take _ = _
    rw [List.append_assoc, List.take_append_of_le_length (by omega), List.take_take, Nat.min_eq_left (by omega), hcs]
  have e2 : c1.drop (i * 3 + (chC x).length) = rowC (l.drop i) ++ cs.drop ((l.length + 1) * 3) := by
    show (cs.take ((i + 1) * 3) ++ _ ++ _).drop _ = _
    rw [chC_length, List.append_assoc, show i * 3 + 3 = (cs.take ((i + 1) * 3)).length by omega, List.drop_left, hn, show (i + 1) * 3 + (l.length - i) * 3 = (l.length + 1) * 3 by omega]
  rw [e1, e2]
  unfold insL
  rw [rowC_append, rowC_cons]
  simp
/-- .. the other way round -/
theorem ins_cells2 {l : List Ch} {cs : List Value} {i : Nat} {x : Ch} (hi : i ≤ l.length) (hcs : cs.take (i * 3) = rowC (l.take i)) (hlen : (l.length + 1) * 3 ≤ cs.length) :
    let c1 := cs.take (i * 3) ++ chC x ++ cs.drop (i * 3 + (chC x).length)
    c1.take ((i + 1) * 3) ++ rowC (l.drop i) ++ c1.drop ((i + 1) * 3 + (rowC (l.drop i)).length) = rowC (insL l i x) ++ cs.drop ((l.length + 1) * 3) := by
  intro c1
  have hn : (rowC (l.drop i)).length = (l.length - i) * 3 := by rw [rowC_length, List.length_drop]
  have hlt : (cs.take (i * 3) ++ chC x).length = (i + 1) * 3 := by rw [List.length_append, List.length_take, chC_length]; omega
  have e1 : c1.take ((i + 1) * 3) = rowC (l.take i) ++ chC x := by
    show (cs.take (i * 3) ++ chC x ++ _).take _ = _
    rw [← hlt, List.take_left, hcs]
  have e2 : c1.drop ((i + 1) * 3 + (rowC (l.drop i)).length) = cs.drop ((l.length + 1) * 3) := by
    show (cs.take (i * 3) ++ chC x ++ cs.drop _).drop _ = _
    rw [← List.drop_drop, ← hlt, List.drop_left, List.drop_drop, hn, chC_length]
    congr 1; omega
  rw [e1, e2]
  unfold insL
  rw [rowC_append, rowC_cons]
  simp
theorem own_of_blk {w : World} {g c n : Nat} {xs rest : List Value} (hb : Blk w g 89 (xs ++ rest)) (hx : xs.length = n * 3) (hlen : (xs ++ rest).length = c * 3) (hn : n ≤ c) (hc : c ≤ maxLen) : w.ownsRow 0 89 3 (.slice (some ⟨g, 0, none⟩) n c) n xs :=
  ownsRow_at hx hb hn hc (by simpa using hlen) (by rw [← hx]; simp)
end Go.Proofs.Ytdhhpnfdnoaihaa

/-! Q8 -/
/- slices.Insert where there is room. -/
namespace Go.Proofs.Ytdhhpnfdnoaihaa
open Go.RowKit

set_option maxRecDepth 100000 in
set_option maxHeartbeats 3200000 in
theorem insert_shift (w : World) (g c : Nat) (l : List Ch) (rest : List Value) (hb : Blk w g 89 (rowC l ++ rest)) (hlen : (rowC l ++ rest).length = c * 3) (hc : c ≤ maxLen) (i : Nat) (hi : i < l.length) (hfew : l.length ≤ 1000000) (hroom : l.length + 1 ≤ c)
    (x : Ch) (b : Nat) (hx : Blk w b 89 (chC x)) (hbg : b ≠ g) :
    Calls Try.prog 108 #[.slice (some ⟨g, 0, none⟩) l.length c, .int .i64 (i : Int), .slice (some ⟨b, 0, none⟩) 1 1] w (InsPost (.slice (some ⟨g, 0, none⟩) l.length c) l i x w) := by
  have hlr := rowC_length l
  obtain ⟨n, hn⟩ : ∃ n, n = l.length := ⟨_, rfl⟩
  have hov : ∀ lb cb, (callFunc 118 #[.slice (some ⟨b, 0, none⟩) 1 1, .slice (some ⟨g, (i + 1) * 3, none⟩) lb cb]).run Try.prog w = .ok (.value (.bool false)) w := fun lb cb => by
    rw [run_callFunc_extern (P := Try.prog) (f := 118) (fn := Try.f118) (by kernel_rfl) (by kernel_rfl) (by kernel_rfl) (by kernel_rfl) (e := Extern.SlicesOverlaps.overlaps #[79, 79] #[4]) (by kernel_rfl),
      Lib.run_overlaps_apart w 79 4 89 s_und79 3 (fun w => by kernel_rfl) ⟨b, 0, none⟩ ⟨g, (i + 1) * 3, none⟩ 1 1 lb cb hbg 89 89 _ _ hx.shape hb.shape (by omega) (hx.free _) (hx.free _)]
    rfl
  have hdl : (rowC (l.drop i)).length = (l.length - i) * 3 := by rw [rowC_length, List.length_drop]
  have hcs : (rowC l ++ rest).take (i * 3) = rowC (l.take i) := by
    have ht : (rowC (l.take i)).length = i * 3 := by rw [rowC_length, List.length_take]; omega
    rw [rowC_split l i, List.append_assoc, ← ht, List.take_left]
  have hb1 := Blk.setCells (rowC (l.drop i)) (o := (i + 1) * 3) hb.drew (by rw [hlen, hdl]; omega)
  have hl1 : ((rowC l ++ rest).take ((i + 1) * 3) ++ rowC (l.drop i) ++ (rowC l ++ rest).drop ((i + 1) * 3 + (rowC (l.drop i)).length)).length = c * 3 := by
    rw [List.length_append, List.length_append, List.length_take, List.length_drop, hlen, hdl]; omega
  have hb2 := Blk.setCells (chC x) (o := i * 3) hb1 (by rw [hl1, chC_length]; omega)
  have hfin := ins_cells (l := l) (x := x) (i := i) (cs := rowC l ++ rest) (by omega) hcs (by omega)
  have hcp1 : ∀ ty, (Builtin.copy_ #[79, 79] ty #[.slice (some ⟨g, (i + 1) * 3, none⟩) (n - i) (c - (i + 1)), .slice (some ⟨g, i * 3, none⟩) (n + 1 - i) (c - i)]).run Try.prog w.drew = .ok (goInt ((n - i : Nat) : Int)) (w.drew.setCells g ((i + 1) * 3) (rowC (l.drop i))) := fun ty =>
    run_copy79 ty g _ _ _ _ _ _ (n - i) _ (by simp only [Nat.min_def]; split <;> omega) (by rw [hdl, hn]) (src_blk hb.drew _ (ins_news (by omega)))
      (fun j hj => by rw [hb.drew.cell, List.getElem?_eq_getElem (by rw [hlen]; omega)]; rfl) (fun j _ => hb.drew.free _) (rowC_ones _)
  have hmod1 : Mod (fun k => k = g) w (w.drew.setCells g ((i + 1) * 3) (rowC (l.drop i))) := Mod.setCells _ ((Mod.refl _ w).drew) (.inl rfl)
  have hx1 : Blk (w.drew.setCells g ((i + 1) * 3) (rowC (l.drop i))) b 89 (chC x) := hmod1.blk hx hbg
  generalize w.drew.setCells g ((i + 1) * 3) (rowC (l.drop i)) = w1 at hcp1 hb1 hb2 hmod1 hx1
  have hcp2 : ∀ ty, (Builtin.copy_ #[79, 79] ty #[.slice (some ⟨g, i * 3, none⟩) (n + 1 - i) (c - i), .slice (some ⟨b, 0, none⟩) 1 1]).run Try.prog w1 = .ok (goInt ((1 : Nat) : Int)) (w1.setCells g (i * 3) (chC x)) := fun ty =>
    run_copy79 ty g _ _ _ _ _ _ 1 _ (by simp only [Nat.min_def]; split <;> omega) rfl (src_blk hx1 _ (fun j v h => by simpa using h))
      (fun j hj => by rw [hb1.cell, List.getElem?_eq_getElem (by rw [hl1]; rw [chC_length] at hj; omega)]; rfl) (fun j _ => hb1.free _) (ch_ones x)
  have HF : Hid (InsPost (.slice (some ⟨g, 0, none⟩) n c) l i x w (.returned (.slice (some ⟨g, 0, none⟩) (n + 1) c)) (w1.setCells g (i * 3) (chC x))) := by
    rw [hn]
    refine ⟨_, _, rfl, ?_, (Mod.setCells _ hmod1 (.inl rfl)).mono (fun k _ e => by subst e; rfl), fun g' hg => .inl hg⟩
    have e := hfin
    simp only at e
    rw [e] at hb2
    exact own_of_blk hb2 (by rw [rowC_length, insL_length]) (by rw [← e]; rw [List.length_append, List.length_append, List.length_take, List.length_drop, hl1, chC_length]; omega) hroom hc
  have HC1 := hid hcp1
  have HC2 := hid hcp2
  rw [← hn] at hi hfew hroom ⊢
  clear hfin hb hlen hx hdl hcs hb1 hl1 hb2 hcp1 hmod1 hx1 hcp2 hlr hn
  have hw1 : IntKind.i64.wrap ((i : Int) + 1) = (i : Int) + 1 := by rw [IntKind.wrap_i64]; omega
  have htn : ((i : Int) + 1).toNat = i + 1 := by omega
  have hz2 : ¬ ((i : Int) = (n : Int)) := by omega
  have hin : i ≤ n := by omega
  have hi0 : (0 : Int) ≤ (i : Int) + 1 := by omega
  have hi1 : (i : Int) + 1 ≤ (n : Int) := by omega
  have hb2 : ¬ (c = i + 1) := by omega
  have hb3 : (i : Int) + 1 ≤ (n : Int) + 1 := by omega
  have hb4 : ¬ (c = i) := by omega
  have hb5 : i + 1 ≤ n + 1 := by omega
  have hb6 : i ≤ n + 1 := by omega
  have hb7 : (i : Int) ≤ (n : Int) + 1 := by omega
  have hsub : n + 1 - (i + 1) = n - i := by omega
  unfold maxLen at hc
  go_enter Try.func108, Try.ntmps108
  go_wp2_with (simp only [hov])
  refine wp_region_still_tail 8 (by kernel_rfl) (by kernel_rfl) ?_
  change wpStill _ _ (World.drew _) (fun a' => wpList _ _ _ _ a' (World.drew _)) _ _
  simp only [List.take_succ_cons, List.take_zero, List.drop_succ_cons, List.drop_zero]
  repeat still_step
  refine wpStill_nil ?_
  refine wpList_plain rfl (fun K hK => wp_copy_eq (.tmp 73) (.tmp 76) rfl _ _ rfl rfl (HC1.out _) (hK _ _ ?_))
  have hc3 := HC2.out 3
  go_wp2_with fail
  go_ret
  exact HF.out
end Go.Proofs.Ytdhhpnfdnoaihaa

/-! Q9 -/
/- slices.Insert where there is no room, and at the end. -/
namespace Go.Proofs.Ytdhhpnfdnoaihaa
open Go.RowKit

theorem s_und3 : Try.prog.underlying 3 = some (.int .i64) := by kernel_rfl
set_option maxRecDepth 100000 in
set_option maxHeartbeats 3200000 in
theorem insert_grow (w : World) (g n : Nat) (l : List Ch) (hb : Blk w g 89 (rowC l)) (hn : n = l.length) (i : Nat) (hi : i < l.length) (hfew : l.length ≤ 1000000)
    (x : Ch) (b : Nat) (hx : Blk w b 89 (chC x)) :
    Calls Try.prog 108 #[.slice (some ⟨g, 0, none⟩) n n, .int .i64 (i : Int), .slice (some ⟨b, 0, none⟩) 1 1] w (InsPost (.slice (some ⟨g, 0, none⟩) n n) l i x w) := by
  obtain ⟨it, hit, hz, hsz, hby⟩ := info_parts s_info89
  have hlr := rowC_length l
  have hk1 : i + (n + 1 - i) = n + 1 := by omega
  have hkk : (n : Int) + 1 - (i : Int) = ((n + 1 - i : Nat) : Int) := by omega
  have hti : (rowC (l.take i)).length = i * 3 := by rw [rowC_length, List.length_take]; omega
  have hdl : (rowC (l.drop i)).length = (n - i) * 3 := by rw [rowC_length, List.length_drop, hn]
  have hold : (Builtin.firstCells it.size i (.slice (some ⟨g, 0, none⟩) i n)).run Try.prog w.drew = .ok (rowC (l.take i)).toArray w.drew := by
    rw [hsz]
    refine run_firstCells_some w.drew 3 i ⟨g, 0, none⟩ i n _ hti (src_blk hb.drew 0 (fun j v hj => ?_))
    rw [Nat.zero_add, rowC_split l i, List.getElem?_append_left (List.getElem?_eq_some_iff.1 hj).1]; exact hj
  have hap := fun ty => Lib.run_append_grow_zeros (P := Try.prog) w 79 3 ty 89 it chZ .i64 .i64 s_und79 s_und3 hit hz (some ⟨g, 0, none⟩) i n (rowC (l.take i)) hold (n + 1 - i) (by omega) (by omega) (by omega) (by omega) (by rw [hby]; omega)
    (by rw [hby]; have := nextslicecap_bound (need := i + (n + 1 - i)) (old := n) (by omega); omega)
  rw [hk1] at hap
  have hge := grownCap_ge w (n + 1) n 89
  have hle := grownCap_le_maxLen w (n + 1) n 89 (by unfold maxLen; omega)
  generalize grownCap w (n + 1) n 89 = G at hap hge hle
  obtain ⟨ROW, hROW⟩ : ∃ ROW, ROW = (rowC (l.take i)).toArray ++ Builtin.zeroCells chZ.cells (n + 1 - i) ++ Builtin.zeroCells chZ.cells (G - (n + 1)) := ⟨_, rfl⟩
  rw [← hROW] at hap
  have hrl : ROW.toList.length = G * 3 := by
    rw [hROW]
    simp only [Array.length_toList, Array.size_append, size_zeroCells, List.size_toArray, hti]
    simp [chZ, Value.cells]; omega
  have hrt : ROW.toList.take (i * 3) = rowC (l.take i) := by
    rw [hROW]
    simp only [Array.toList_append, List.append_assoc]
    rw [← hti, List.take_left]
  have hb1 : Blk (w.drew.alloc (.cells ROW 89)) w.heap.size 89 ROW.toList := Blk.new w.drew 89 ROW
  have hm1 : Mod None w (w.drew.alloc (.cells ROW 89)) := ((Mod.refl _ w).drew).alloc _
  have hbg : g < w.heap.size := hb.lt
  have hbx : b < w.heap.size := hx.lt
  obtain ⟨h, hh⟩ : ∃ h, h = w.heap.size := ⟨_, rfl⟩
  rw [← hh] at hap hb1 hbg hbx
  have hap3 := hap 79
  rw [← hkk] at hap3
  have hx1 := hm1.blk hx (fun e => e)
  have hs1 := hm1.blk hb (fun e => e)
  generalize w.drew.alloc (.cells ROW 89) = w1 at hap3 hb1 hm1 hx1 hs1
  have hcp1 : (Builtin.copy_ #[79, 79] 3 #[.slice (some ⟨h, i * 3, none⟩) (n + 1 - i) (G - i), .slice (some ⟨b, 0, none⟩) 1 1]).run Try.prog w1 = .ok (goInt ((1 : Nat) : Int)) (w1.setCells h (i * 3) (chC x)) :=
    run_copy79 3 h _ _ _ _ _ _ 1 _ (by simp only [Nat.min_def]; split <;> omega) rfl (src_blk hx1 _ (fun j v h => by simpa using h))
      (fun j hj => by rw [hb1.cell, List.getElem?_eq_getElem (by rw [hrl]; rw [chC_length] at hj; omega)]; rfl) (fun j _ => hb1.free _) (ch_ones x)
  have hb2 := Blk.setCells (chC x) (o := i * 3) hb1 (by rw [hrl, chC_length]; omega)
  have hl2 : (ROW.toList.take (i * 3) ++ chC x ++ ROW.toList.drop (i * 3 + (chC x).length)).length = G * 3 := by
    rw [List.length_append, List.length_append, List.length_take, List.length_drop, hrl, chC_length]; omega
  have hs2 : Blk (w1.setCells h (i * 3) (chC x)) g 89 (rowC l) := (Mod.setCells (S := fun k => k = h) _ (Mod.refl _ w1) (.inl rfl)).blk hs1 (by omega)
  have hm2 : Mod None w (w1.setCells h (i * 3) (chC x)) := Mod.setCells _ hm1 (.inr (by omega))
  generalize w1.setCells h (i * 3) (chC x) = w2 at hcp1 hb2 hs2 hm2
  have hcp2 : ∀ ty, (Builtin.copy_ #[79, 79] ty #[.slice (some ⟨h, (i + 1) * 3, none⟩) (n - i) (G - (i + 1)), .slice (some ⟨g, i * 3, none⟩) (n - i) (n - i)]).run Try.prog w2.drew = .ok (goInt ((n - i : Nat) : Int)) (w2.drew.setCells h ((i + 1) * 3) (rowC (l.drop i))) := fun ty =>
    run_copy79 ty h _ _ _ _ _ _ (n - i) _ (by simp only [Nat.min_def]; split <;> omega) hdl (src_blk hs2.drew _ (fun j v hj => by have := ins_news (l := l) (rest := []) (by omega) j v hj; rwa [List.append_nil] at this))
      (fun j hj => by rw [hb2.drew.cell, List.getElem?_eq_getElem (by rw [hl2]; omega)]; rfl) (fun j _ => hb2.drew.free _) (rowC_ones _)
  have hb3 := Blk.setCells (rowC (l.drop i)) (o := (i + 1) * 3) hb2.drew (by rw [hl2, hdl]; omega)
  have hfin := ins_cells2 (l := l) (x := x) (i := i) (cs := ROW.toList) (by omega) hrt (by omega)
  have HF : Hid (InsPost (.slice (some ⟨g, 0, none⟩) n n) l i x w (.returned (.slice (some ⟨h, 0, none⟩) (n + 1) G)) (w2.drew.setCells h ((i + 1) * 3) (rowC (l.drop i)))) := by
    rw [hn]
    refine ⟨_, _, rfl, ?_, (Mod.setCells _ hm2.drew (.inr (by omega))).mono (fun k _ e => e.elim), fun g' hg => .inr ?_⟩
    · have e := hfin
      simp only at e
      rw [e] at hb3
      exact own_of_blk hb3 (by rw [rowC_length, insL_length]) (by rw [← e]; rw [List.length_append, List.length_append, List.length_take, List.length_drop, hl2, hdl]; omega) (by omega) hle
    · have e : h = g' := by simpa [Value.ownBlock] using hg
      omega
  have HC2 := hid hcp2
  rw [← hn] at hi hfew
  clear hfin hb hx hdl hti hold hap hx1 hs1 hb1 hm1 hl2 hb2 hs2 hm2 hcp2 hb3 hlr hn hbg hbx hh hrl hrt hROW hz hit hsz hby hkk hk1
  have hz2 : ¬ ((i : Int) = (n : Int)) := by omega
  have hw0 : IntKind.i64.wrap ((n : Int) + 1) = (n : Int) + 1 := by rw [IntKind.wrap_i64]; omega
  have hw1 : IntKind.i64.wrap ((i : Int) + 1) = (i : Int) + 1 := by rw [IntKind.wrap_i64]; omega
  have hw2 : IntKind.i64.wrap ((n : Int) + 1 - (i : Int)) = (n : Int) + 1 - (i : Int) := by rw [IntKind.wrap_i64]; omega
  have htn : ((i : Int) + 1).toNat = i + 1 := by omega
  have hin : i ≤ n := by omega
  have hi0 : (0 : Int) ≤ (i : Int) + 1 := by omega
  have hi1 : (i : Int) + 1 ≤ (n : Int) := by omega
  have hb2 : ¬ (G = i + 1) := by omega
  have hb3 : (i : Int) + 1 ≤ (n : Int) + 1 := by omega
  have hb4 : ¬ (G = i) := by omega
  have hb8 : ¬ (n = i) := by omega
  have hb5 : i + 1 ≤ n + 1 := by omega
  have hb6 : i ≤ n + 1 := by omega
  have hb7 : (i : Int) ≤ (n : Int) + 1 := by omega
  have hlt1 : (n : Int) < (n : Int) + 1 := by omega
  have hsub : n + 1 - (i + 1) = n - i := by omega
  unfold maxLen at hle
  have HA := hid hap3
  clear hap3
  go_enter Try.func108, Try.ntmps108
  go_wp2_with (at_builtin; go_loud (refine wpList_plain rfl (fun K hK => wp_append_eq (.tmp 34) (.tmp 39) 79 3 rfl _ _ rfl rfl HA.out (hK _ _ ?_))))
  refine wp_region_still_tail 8 (by kernel_rfl) (by kernel_rfl) ?_
  change wpStill _ _ (World.drew _) (fun a' => wpList _ _ _ _ a' (World.drew _)) _ _
  simp only [List.take_succ_cons, List.take_zero, List.drop_succ_cons, List.drop_zero]
  repeat still_step
  refine wpStill_nil ?_
  refine wpList_plain rfl (fun K hK => wp_copy_eq (.tmp 50) (.tmp 53) rfl _ _ rfl rfl (HC2.out _) (hK _ _ ?_))
  go_wp2_with fail
  go_ret
  exact HF.out
set_option maxRecDepth 100000 in
set_option maxHeartbeats 3200000 in
theorem insert_end (w : World) (a : Option Addr) (c n : Nat) (l : List Ch) (hn : n = l.length) (ho : w.ownsRow 0 89 3 (.slice a n c) n (rowC l)) (hfew : l.length ≤ 1000000)
    (x : Ch) (b : Nat) (hx : Blk w b 89 (chC x)) :
    Calls Try.prog 108 #[.slice a n c, .int .i64 (n : Int), .slice (some ⟨b, 0, none⟩) 1 1] w (InsPost (.slice a n c) l n x w) := by
  obtain ⟨it, hit, hz, hsz, hby⟩ := info_parts s_info89
  have HIX := hid (And.intro hit (And.intro hz (And.intro hsz hby)))
  have HO := hid ho
  have HX := hid (hx.rdv (vs := chC x) 0 (fun i _ => by rw [Nat.zero_add]))
  have HE : Hid (insL l n x = l ++ [x]) := by unfold insL; rw [hn, List.take_length, List.drop_length]; rfl
  have HN := hid hn
  rw [← hn] at hfew
  have hsh : (a = none ∧ n = 0 ∧ c = 0) ∨ ∃ g, a = some ⟨g, 0, none⟩ ∧ n ≤ c ∧ c ≤ 2 ^ 63 - 1 := by
    rcases ho.2 with ⟨e, h0⟩ | ⟨g, cap, cur, e, _, _, h1, h2, _⟩
    · injection e with e1 e2 e3
      exact .inl ⟨e1, h0, e3⟩
    · injection e with e1 e2 e3
      subst e3
      exact .inr ⟨g, e1, h1, h2⟩
  have HEND := hid (fun va vc w' (h1 : w'.ownsRow 0 89 3 (.slice va (n + 1) vc) (n + 1) (rowC l ++ chC x)) (h2 : Mod (fun k => (Value.slice a n c).ownBlock = some k) w w') (h3 : ∀ g, (Value.slice va (n + 1) vc).ownBlock = some g → (Value.slice a n c).ownBlock = some g ∨ (w.heap.size ≤ g ∧ g < w'.heap.size)) =>
    (show InsPost (.slice a n c) l n x w (.returned (.slice va (n + 1) vc)) w' from by
      have e : rowC (insL l n x) = rowC l ++ chC x := by rw [HE.out, rowC_append]; rfl
      refine ⟨va, vc, by rw [hn], by rw [← hn, e]; exact h1, h2, fun g hg => ?_⟩
      rw [← hn] at hg
      rcases h3 g hg with h | h
      · exact .inl h
      · exact .inr h.1))
  clear hit hz hsz hby ho hx hn
  have hnn : ((n : Int) == (n : Int)) = true := by simp
  have hcap : ¬ ((c : Int) < (n : Int)) ∨ True := .inr trivial
  rcases hsh with ⟨rfl, rfl, rfl⟩ | ⟨g, rfl, hnc, hc⟩
  · go_enter Try.func108, Try.ntmps108
    go_wp2_with (at_builtin; go_loud (refine wpList_plain rfl (fun K hK => wp_append_R (.tmp 23) (.tmp 24) 79 rfl 89 it chZ 3 40 s_und79 HIX.out.1 HIX.out.2.1 HIX.out.2.2.1 HIX.out.2.2.2 rfl (by decide) _ 0 _ rfl HO.out _ 1 1 (chC x) rfl rfl HX.out (ch_ones x) (by unfold maxLen; omega) (by omega) (fun va vc w' h2 h3 h4 => hK _ _ ?_))))
    go_ret
    exact HEND.out _ _ _ h2.out h3.out h4.out
  · by_cases hcn : c = n
    · go_enter Try.func108, Try.ntmps108
      go_wp2_with (at_builtin; go_loud (refine wpList_plain rfl (fun K hK => wp_append_R (.tmp 23) (.tmp 24) 79 rfl 89 it chZ 3 40 s_und79 HIX.out.1 HIX.out.2.1 HIX.out.2.2.1 HIX.out.2.2.2 rfl (by decide) _ n _ rfl HO.out _ 1 1 (chC x) rfl rfl HX.out (ch_ones x) (by unfold maxLen; omega) (by omega) (fun va vc w' h2 h3 h4 => hK _ _ ?_))))
      go_ret
      exact HEND.out _ _ _ h2.out h3.out h4.out
    · go_enter Try.func108, Try.ntmps108
      go_wp2_with (at_builtin; go_loud (refine wpList_plain rfl (fun K hK => wp_append_R (.tmp 23) (.tmp 24) 79 rfl 89 it chZ 3 40 s_und79 HIX.out.1 HIX.out.2.1 HIX.out.2.2.1 HIX.out.2.2.2 rfl (by decide) _ n _ rfl HO.out _ 1 1 (chC x) rfl rfl HX.out (ch_ones x) (by unfold maxLen; omega) (by omega) (fun va vc w' h2 h3 h4 => hK _ _ ?_))))
      go_ret
      exact HEND.out _ _ _ h2.out h3.out h4.out
end Go.Proofs.Ytdhhpnfdnoaihaa

/-! Q10 -/
/- A row of changes of the call's own: what Delete, Insert and a store leave of it. -/
namespace Go.Proofs.Ytdhhpnfdnoaihaa
open Go.RowKit

/-- v is the row L, made since w -/
structure ChRow (w wr : World) (v : Value) (L : List Ch) : Prop where
  own : wr.ownsRow 0 89 3 v L.length (rowC L)
  mod : Mod None w wr
  new : ∀ g, v.ownBlock = some g → w.heap.size ≤ g
section
variable {w wr w' : World} {v : Value} {L : List Ch}
theorem ChRow.keep (h : ChRow w wr v L) (hm : Mod None wr w') : ChRow w w' v L := by
  refine ⟨?_, h.mod.trans hm, h.new⟩
  have := (show OwnR wr (fun _ => True) 89 3 v L.length (rowC L) from ⟨h.own, fun _ _ => trivial⟩).kept hm (fun _ _ e => e) (fun _ h => h)
  exact this.1
theorem ChRow.shape (h : ChRow w wr v L) : ∃ a c, v = .slice a L.length c ∧ RdV wr a (rowC L) := by
  have h1 : OwnR wr (fun _ => True) 89 3 v L.length (rowC L) := ⟨h.own, fun _ _ => trivial⟩
  obtain ⟨a, c, e, _⟩ := h1.shape
  exact ⟨a, c, e, h1.rdv e⟩
theorem ChRow.open1 (h : ChRow w wr v L) (hn : 0 < L.length) : ∃ g c rest, v = .slice (some ⟨g, 0, none⟩) L.length c ∧ w.heap.size ≤ g ∧ Blk wr g 89 (rowC L ++ rest) ∧ L.length ≤ c ∧ c ≤ maxLen ∧ (rowC L ++ rest).length = c * 3 := by
  obtain ⟨g, c, rest, e, hS, hb, h1, h2, h3, _⟩ := (show OwnR wr (fun g => w.heap.size ≤ g) 89 3 v L.length (rowC L) from ⟨h.own, h.new⟩).open1 hn
  exact ⟨g, c, rest, e, hS, hb, h1, h2, h3⟩
theorem ChRow.turn (h : ChRow w wr v L) (hm : Mod (fun k => v.ownBlock = some k) wr w') : Mod None w w' :=
  h.mod.then hm (fun k hk hg => by have := h.new k hg; omega)
def RPost (w : World) (L : List Ch) (e : Ending) (w' : World) : Prop := ∃ a c, e = .returned (.slice a L.length c) ∧ ChRow w w' (.slice a L.length c) L
theorem delete_row (h : ChRow w wr v L) (i : Nat) (hi : i < L.length) (hfew : L.length ≤ 1000000) : Calls Try.prog 107 #[v, .int .i64 (i : Int), .int .i64 ((i : Int) + 1)] wr (RPost w (L.eraseIdx i)) := by
  obtain ⟨g, c, rest, rfl, hg, hb, h1, h2, h3⟩ := h.open1 (by omega)
  refine (delete_any wr g c L rest hb h3 h2 i hi hfew).mono fun e w' ⟨he, hb', hm⟩ => ?_
  have e1 : (L.eraseIdx i).length = L.length - 1 := by rw [List.length_eraseIdx_of_lt hi]
  refine ⟨_, _, by rw [e1]; exact he, ?_, h.mod.then hm (fun k hk e => by subst e; omega), fun g' hg' => by cases hg'; exact hg⟩
  rw [e1]
  refine own_of_blk hb' (by rw [rowC_length, e1]) ?_ (by omega) h2
  have := rowC_length L
  have h4 : (rowC (L.eraseIdx i)).length = (L.length - 1) * 3 := by rw [rowC_length, e1]
  simp only [List.length_append, List.length_cons, List.length_nil] at *
  omega
theorem insert_row (h : ChRow w wr v L) (i : Nat) (hi : i ≤ L.length) (hfew : L.length ≤ 1000000) (x : Ch) (b : Nat) (hx : Blk wr b 89 (chC x)) (hb : v.ownBlock ≠ some b) :
    Calls Try.prog 108 #[v, .int .i64 (i : Int), .slice (some ⟨b, 0, none⟩) 1 1] wr (RPost w (insL L i x)) := by
  have key : Calls Try.prog 108 #[v, .int .i64 (i : Int), .slice (some ⟨b, 0, none⟩) 1 1] wr (InsPost v L i x wr) := by
    by_cases hlt : i < L.length
    · obtain ⟨g, c, rest, rfl, hg, hbk, h1, h2, h3⟩ := h.open1 (by omega)
      by_cases hr : L.length + 1 ≤ c
      · exact insert_shift wr g c L rest hbk h3 h2 i hlt hfew hr x b hx (fun e => hb (by subst e; rfl))
      · obtain rfl : c = L.length := by omega
        have hl := rowC_length L
        have : rest = [] := List.eq_nil_of_length_eq_zero (by rw [List.length_append] at h3; omega)
        subst this
        rw [List.append_nil] at hbk
        exact insert_grow wr g _ L hbk rfl i hlt hfew x b hx
    · obtain rfl : i = L.length := by omega
      obtain ⟨a, c, rfl, _⟩ := h.shape
      exact insert_end wr a c _ L rfl h.own hfew x b hx
  refine key.mono fun e w' ⟨a, c, he, ho, hm, hn⟩ => ?_
  refine ⟨a, c, by rw [insL_length]; exact he, by rw [insL_length]; exact ho, h.turn hm, fun g hg => ?_⟩
  rw [insL_length] at hg
  rcases hn g hg with h' | h'
  · exact h.new g h'
  · exact Nat.le_trans h.mod.size h'
theorem set_cells {l : List Ch} {rest : List Value} {i : Nat} {x : Ch} (hi : i < l.length) : (rowC l ++ rest).take (i * 3) ++ chC x ++ (rowC l ++ rest).drop (i * 3 + (chC x).length) = rowC (l.set i x) ++ rest := by
  have ht : (rowC (l.take i)).length = i * 3 := by rw [rowC_length, List.length_take]; omega
  have e1 : (rowC l ++ rest).take (i * 3) = rowC (l.take i) := by rw [rowC_split l i, List.append_assoc, ← ht, List.take_left]
  have e2 : (rowC l ++ rest).drop (i * 3 + (chC x).length) = rowC (l.drop (i + 1)) ++ rest := by
    rw [rowC_split l (i + 1), List.append_assoc, chC_length, show i * 3 + 3 = (rowC (l.take (i + 1))).length by rw [rowC_length, List.length_take]; omega, List.drop_left]
  rw [e1, e2, List.set_eq_take_append_cons_drop, if_pos hi, rowC_append, rowC_cons]
  simp
/-- a store into it -/
theorem ChRow.put {g c : Nat} (h : ChRow w wr (.slice (some ⟨g, 0, none⟩) L.length c) L) (i : Nat) (hi : i < L.length) (x : Ch) :
    ChRow w (((wr.setCell ⟨g, i * 3, none⟩ (Str x.key)).setCell ⟨g, i * 3 + 1, none⟩ (Str x.val)).setCell ⟨g, i * 3 + 2, none⟩ (.bool x.gone)) (.slice (some ⟨g, 0, none⟩) L.length c) (L.set i x) := by
  obtain ⟨g', c', rest, e, hg, hb, h1, h2, h3⟩ := h.open1 (by omega)
  obtain ⟨rfl, rfl⟩ : g = g' ∧ c = c' := by simpa using e
  have hb2 := Blk.setCells (chC x) (o := i * 3) hb (by rw [h3, chC_length]; omega)
  rw [set_cells hi] at hb2
  have hl : (L.set i x).length = L.length := List.length_set
  refine ⟨?_, ((h.mod.set (.inr hg) _).set (.inr hg) _).set (.inr hg) _, h.new⟩
  rw [hl]
  refine own_of_blk hb2 (by rw [rowC_length, hl]) ?_ h1 h2
  have a1 := rowC_length L
  have a2 := rowC_length (L.set i x)
  rw [hl] at a2
  rw [List.length_append] at h3 ⊢
  omega
theorem ChRow.cells {g c : Nat} (h : ChRow w wr (.slice (some ⟨g, 0, none⟩) L.length c) L) (i : Nat) (hi : i < L.length) :
    (∃ u, wr.cell? ⟨g, i * 3, none⟩ = some u) ∧ (∃ u, wr.cell? ⟨g, i * 3 + 1, none⟩ = some u) ∧ (∃ u, wr.cell? ⟨g, i * 3 + 2, none⟩ = some u) ∧ ∀ j, wr.frozen? ⟨g, j, none⟩ = false := by
  obtain ⟨g', c', rest, e, hg, hb, h1, h2, h3⟩ := h.open1 (by omega)
  obtain ⟨rfl, rfl⟩ : g = g' ∧ c = c' := by simpa using e
  exact ⟨⟨_, hb.cellAt _ (by omega)⟩, ⟨_, hb.cellAt _ (by omega)⟩, ⟨_, hb.cellAt _ (by omega)⟩, fun j => hb.free j⟩
end
theorem clone_row {w wr : World} (hm : Mod None w wr) (a : Option Addr) (n c : Nat) (l : List Ch) (hn : n = l.length) (hr : RdV wr a (rowC l)) (hfew : l.length ≤ 1000000) : Calls Try.prog 97 #[.slice a n c] wr (RPost w l) := by
  subst hn
  refine (clone97_any wr a _ c (rowC l) (rowC_length l) hr (rowC_ones l) (by omega)).mono fun e w' ⟨a', c', he, ho, hm', hn⟩ => ?_
  exact ⟨a', c', he, ho, hm.trans hm', fun g hg => Nat.le_trans hm.size (hn g hg)⟩
end Go.Proofs.Ytdhhpnfdnoaihaa

/-! Q11 -/
/- A batch done to a row: the store's apply. -/
namespace Go.Proofs.Ytdhhpnfdnoaihaa
open Go.RowKit

theorem ap_step {l batch : List Ch} (hR : Rising l) {k : Nat} (hk : k < batch.length) : allL l (batch.take (k + 1)) = stepL (allL l (batch.take k)) (nth batch k) := by
  rw [step_eq (rising_all _ hR), List.take_add_one, List.getElem?_eq_getElem hk, nth_at hk]
  exact all_snoc _ _ _
theorem ch_new {w : World} (x : Ch) : Blk (w.alloc (.cells #[.string ⟨x.key.toArray⟩, .string ⟨x.val.toArray⟩, .bool x.gone] 89)) w.heap.size 89 (chC x) := Blk.new w 89 #[.string ⟨x.key.toArray⟩, .string ⟨x.val.toArray⟩, .bool x.gone]
theorem stepL_def (l : List Ch) (c : Ch) : stepL l c = if c.gone then (if isAt l c.key then l.eraseIdx (cnt l c.key) else l) else if isAt l c.key then l.set (cnt l c.key) c else insL l (cnt l c.key) c := rfl
theorem isAt_lt {l : List Ch} {k : List UInt8} (h : isAt l k = true) : cnt l k < l.length := by
  rw [isAt_cnt, Bool.and_eq_true, decide_eq_true_eq] at h; exact h.1
def ANew (w wr : World) (v : Value) (L : List Ch) (x : Ch) (e : Ending) (w' : World) : Prop :=
  e = .returned (.tuple #[.int .i64 (cnt L x.key : Int), .bool (isAt L x.key)]) ∧ ChRow w w' v L ∧ Blk w' wr.heap.size 89 (chC x) ∧ v.ownBlock ≠ some wr.heap.size
theorem ap_new {w wr : World} {a : Option Addr} {c : Nat} {L : List Ch} (h : ChRow w wr (.slice a L.length c) L) (x : Ch) (hR : Rising L) (hfew : L.length ≤ 1000000) (o : Obj) (ho : o = .cells #[.string ⟨x.key.toArray⟩, .string ⟨x.val.toArray⟩, .bool x.gone] 89) :
    Calls Try.prog 95 #[.slice a L.length c, .string ⟨x.key.toArray⟩] (wr.alloc o) (ANew w wr (.slice a L.length c) L x) := by
  subst ho
  have hm := (Mod.refl None wr).alloc (.cells #[.string ⟨x.key.toArray⟩, .string ⟨x.val.toArray⟩, .bool x.gone] 89)
  obtain ⟨a', c', e, hr⟩ := (h.keep hm).shape
  obtain ⟨rfl, rfl⟩ : a = a' ∧ c = c' := by simpa using e
  refine (find_any _ a L.length c L rfl hr hR x.key hfew).mono fun e w' ⟨he, hm'⟩ => ⟨he, (h.keep hm).keep hm', hm'.blk (ch_new x) (fun h => h), fun hg => ?_⟩
  have := h.own.lt _ hg
  omega
set_option maxRecDepth 100000 in
set_option maxHeartbeats 3200000 in
theorem apply_any (w : World) (a : Option Addr) (n c : Nat) (l : List Ch) (hn : n = l.length) (hr : RdV w a (rowC l)) (hR : Rising l)
    (ab : Option Addr) (nb cb : Nat) (batch : List Ch) (hnb : nb = batch.length) (hrb : RdV w ab (rowC batch)) (hfew : l.length + batch.length ≤ 900000) :
    Calls Try.prog 88 #[.slice a n c, .slice ab nb cb] w (RPost w (allL l batch)) := by
  have HR := hid hr
  have HRB := hid hrb
  have HRI := hid hR
  have HN := hid hnb
  have HC := hid (clone_row (Mod.refl None w) a n c l hn hr (by omega))
  have HLEN := hid (fun k => all_len (batch.take k) hR)
  have HRIS := hid (fun k => rising_all (batch.take k) hR)
  have hnb6 : nb ≤ 900000 := by omega
  have HF := hid hfew
  clear hr hrb hR hnb hn hfew
  go_enter Try.func88, Try.ntmps88
  go_wp2_with fail
  refine HC.out.mono ?_
  rintro e w1 ⟨a1, c1, rfl, h1⟩
  have H1 := hid h1
  clear h1
  go_wp2_with fail
  go_loopw [0, 13] (fun v vk wr => ∃ (k : Nat) (a : Option Addr) (c : Nat), k ≤ nb ∧ vk = .int .i64 k ∧ v = .slice a (allL l (batch.take k)).length c ∧ Hid (ChRow w wr (.slice a (allL l (batch.take k)).length c) (allL l (batch.take k)))) (fun _ vk _ => nb - (intOf vk).toNat)
  case atStart => exact ⟨0, a1, c1, by omega, rfl, by simp [allL], by simpa [allL] using H1⟩
  case round =>
    obtain ⟨k, a2, c2, hk, rfl, rfl, h2⟩ := hrel
    by_cases hlt : k < nb
    · have hlt' : (k : Int) < (nb : Int) := by omega
      have hkb : k < batch.length := by have := HN.out; omega
      obtain ⟨b, o, rfl, e1, e2, e3⟩ := rd_ch HRB.out hkb
      have d1 := h2.out.mod.cell0 e1
      have d2 := h2.out.mod.cell0 e2
      have d3 := h2.out.mod.cell0 e3
      have HS := hid (ap_step HRI.out hkb)
      have HL := hid (HLEN.out k)
      have HRL := hid (HRIS.out k)
      generalize allL l (batch.take k) = L at *
      generalize nth batch k = x at *
      unfold Str at d1 d2
      clear e1 e2 e3
      have htk : (batch.take k).length ≤ batch.length := by rw [List.length_take]; omega
      have HA := hid (ap_new (L := L) h2.out x HRL.out (by have := HL.out; have := HF.out; omega) _ rfl)
      have HL9 := hid (show L.length ≤ 1000000 by have := HL.out; have := HF.out; omega)
      clear htk
      have hlf : cnt L x.key ≤ L.length := cnt_le _ _
      have HAT := hid (fun h => isAt_lt (l := L) (k := x.key) h)
      have HST := hid (stepL_def L x)
      have hc9 : (cnt L x.key : Int) ≤ 1000000 := by have := HL9.out; omega
      go_wp2_with fail
      refine HA.out.mono ?_
      rintro e w3 ⟨rfl, h3, hb3, hq⟩
      generalize wr.heap.size = q at *
      have H3 := hid h3
      have HB3 := hid hb3
      have HQ := hid hq
      have f0 : w3.cell? ⟨q, 0, none⟩ = some (.string ⟨x.key.toArray⟩) := hb3.is rfl
      have f1 : w3.cell? ⟨q, 1, none⟩ = some (.string ⟨x.val.toArray⟩) := hb3.is rfl
      have f2 : w3.cell? ⟨q, 2, none⟩ = some (.bool x.gone) := hb3.is rfl
      clear d1 d2 d3 h3 hb3 hq
      generalize cnt L x.key = i at *
      generalize isAt L x.key = b at *
      cases hg : x.gone with
      | true =>
        rw [hg] at f2 HST
        cases b with
        | true =>
          have hi : i < L.length := HAT.out rfl
          have HD := hid (delete_row H3.out i hi HL9.out)
          have hw1 : IntKind.i64.wrap ((i : Int) + 1) = (i : Int) + 1 := by rw [IntKind.wrap_i64]; omega
          go_wp2_with fail
          refine HD.out.mono ?_
          rintro e w4 ⟨a4, c4, rfl, h4⟩
          have H4 := hid h4
          clear h4
          go_wp2_with fail
          go_roundw
          case rel => exact ⟨k + 1, a4, c4, by omega, by go_num, by rw [HS.out, HST.out]; rfl, by rw [HS.out, HST.out]; exact H4.out⟩
          case measure => simp [intOf]; omega
        | false =>
          go_wp2_with fail
          go_roundw
          case rel => exact ⟨k + 1, a2, c2, by omega, by go_num, by rw [HS.out, HST.out]; rfl, by rw [HS.out, HST.out]; exact H3.out⟩
          case measure => simp [intOf]; omega
      | false =>
        rw [hg] at f2 HST
        cases b with
        | true =>
          have hi : i < L.length := HAT.out rfl
          obtain ⟨g, rfl⟩ : ∃ g, a2 = some ⟨g, 0, none⟩ := by
            obtain ⟨g, c', _, e, _⟩ := H3.out.open1 (by omega)
            injection e with e1
            exact ⟨g, e1⟩
          obtain ⟨⟨v0, g0⟩, ⟨v1, g1⟩, ⟨v2, g2⟩, gf⟩ := H3.out.cells i hi
          have gf0 := gf (i * 3)
          have gf1 := gf (i * 3 + 1)
          have gf2 := gf (i * 3 + 2)
          have HP := hid (H3.out.put i hi x)
          unfold Str at HP
          rw [hg] at HP
          have hi' : (i : Int) < (L.length : Int) := by omega
          clear gf
          go_wp2_with fail
          go_roundw
          case rel => exact ⟨k + 1, some ⟨g, 0, none⟩, c2, by omega, by go_num, by rw [HS.out, HST.out]; simp, by rw [HS.out, HST.out]; simp only [Bool.false_eq_true, if_false, if_true, List.length_set]; exact HP⟩
          case measure => simp [intOf]; omega
        | false =>
          have HX := hid (H3.out.keep ((Mod.refl None w3).alloc (.cells #[.string ⟨x.key.toArray⟩, .string ⟨x.val.toArray⟩, .bool false] 89)))
          have HIN := hid (insert_row HX.out i hlf HL9.out x w3.heap.size (by have := ch_new (w := w3) x; rw [hg] at this; exact this) (fun e => by have := H3.out.own.lt _ e; omega))
          go_wp2_with fail
          refine HIN.out.mono ?_
          rintro e w4 ⟨a4, c4, rfl, h4⟩
          have H4 := hid h4
          clear h4
          generalize w3.heap.size = q3 at *
          go_wp2_with fail
          go_roundw
          case rel => exact ⟨k + 1, a4, c4, by omega, by go_num, by rw [HS.out, HST.out]; rfl, by rw [HS.out, HST.out]; exact H4⟩
          case measure => simp [intOf]; omega
    · obtain rfl : k = nb := by omega
      have HE : Hid (allL l (batch.take k) = allL l batch) := by rw [HN.out, List.take_length]; rfl
      rw [HE.out] at h2 ⊢
      go_wp2_with fail
      go_ret
      exact ⟨_, _, rfl, h2.out⟩
end Go.Proofs.Ytdhhpnfdnoaihaa

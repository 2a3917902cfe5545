/- The agenda's own methods: New, Len, First, Put, Drop. -/
import Derived.Laws.ResultCell
import Derived.Carry
import Derived.Test.YtekobigoekfckaaA5
import Derived.Test.YtekobigoekfckaaB11
namespace Go.Proofs.Ytekobigoekfckaa
open Go.RowKit

/-- the agenda at p holds just the entries of s, which is in order -/
def AgS (w : World) (S : Nat → Prop) (p : Nat) (s : List Ent) : Prop := ∃ l, IsAg w S p l ∧ Heap (fn l) l.length ∧ l.Perm s ∧ s.Pairwise le
theorem AgS.same {w w' : World} {S : Nat → Prop} {p : Nat} {s : List Ent} (h : AgS w S p s) (hm : Mod None w w') : AgS w' S p s := by
  obtain ⟨l, h, r⟩ := h
  exact ⟨l, h.same hm, r⟩
theorem AgS.keep {w w' : World} {S T : Nat → Prop} {p : Nat} {s : List Ent} (h : AgS w S p s) (hm : Mod T w w') (hT : ∀ k, S k → ¬ T k) : AgS w' S p s := by
  obtain ⟨l, ⟨m, lv, b, h⟩, r⟩ := h
  exact ⟨l, ⟨m, lv, b, h.keep hm hT⟩, r⟩
theorem AgS.lt {w : World} {S : Nat → Prop} {p : Nat} {s : List Ent} (h : AgS w S p s) : ∀ k, S k → k < w.heap.size := by
  obtain ⟨l, ⟨m, lv, b, h⟩, r⟩ := h
  exact h.lt
theorem AgS.big {w : World} {S : Nat → Prop} {p : Nat} {s : List Ent} (h : AgS w S p s) : ∀ e ∈ s, In64 e.1 ∧ In64 e.2 := by
  obtain ⟨l, ⟨m, lv, b, h⟩, _, hp, _⟩ := h
  exact fun e he => h.big e (hp.mem_iff.2 he)
theorem AgS.unlike {w : World} {S : Nat → Prop} {p : Nat} {s : List Ent} (h : AgS w S p s) : s.Pairwise (fun x y => x.1 ≠ y.1) := by
  obtain ⟨l, ⟨m, lv, b, h⟩, _, hp, _⟩ := h
  exact hp.pairwise h.pos.unlike (fun h e => h e.symm)
/-! New -/
def NewPost (w : World) (e : Ending) (w' : World) : Prop := ∃ p S, e = .returned (Ptr p) ∧ AgS w' S p [] ∧ Mod None w w' ∧ ∀ k, S k → w.heap.size ≤ k
theorem new_end (w : World) : NewPost w (.returned (Ptr (w.heap.size + 1))) ((w.alloc (.map #[] 0)).alloc (.cells #[.slice none 0 0, .map (some w.heap.size)] 53)) := by
  have hm : Mod None (w.alloc (.map #[] 0)) ((w.alloc (.map #[] 0)).alloc (.cells #[.slice none 0 0, .map (some w.heap.size)] 53)) := (Mod.refl _ _).alloc _
  have hb := Blk.new (w.alloc (.map #[] 0)) 53 #[.slice none 0 0, .map (some w.heap.size)]
  rw [World.size_alloc] at hb
  refine ⟨w.heap.size + 1, fun k => k = w.heap.size ∨ k = w.heap.size + 1, rfl, ⟨[], ⟨fun _ => none, .slice none 0 0, w.heap.size, hb, .inr rfl, .inl rfl, ⟨World.ownsRow_nil _ _ _ _, fun g hg => (by cases hg)⟩, (isat_made w).keep hm (fun h => h), ⟨fun k hk => (by simp at hk), fun _ _ h => (by cases h)⟩, fun e => (by cases e), fun e => (by cases e), fun e he => (by simp at he), ?_⟩, fun k hk hn => (by simp at hn), List.Perm.refl _, List.Pairwise.nil⟩, ((Mod.refl None w).alloc _).trans hm, ?_⟩
  · intro k hk
    rw [World.size_alloc, World.size_alloc]; omega
  · intro k hk; omega
theorem new_any (w : World) : Calls Try.prog 7 #[] w (NewPost w) := by
  have HE := hid (new_end w)
  have hmm := @run_makeMap Try.prog
  unfold Ptr at HE
  go_enter Try.func7, Try.ntmps7
  go_wp2
  go_ret
  exact HE.out
/-! Len -/
theorem aglen_any (w : World) (S : Nat → Prop) (p : Nat) (s : List Ent) (h : AgS w S p s) : Calls Try.prog 17 #[Ptr p] w fun e w' => e = .returned (.int .i64 (s.length : Int)) ∧ w = w' := by
  obtain ⟨l, h, _, hp, _⟩ := h
  have HL := hid (len_any w S p l h)
  have hl := hp.length_eq
  unfold LenPost at HL
  rw [hl] at HL
  clear h hp hl
  unfold Ptr at *
  go_enter Try.func17, Try.ntmps17
  go_wp2_with fail
  refine HL.out.mono ?_
  rintro e w2 ⟨rfl, rfl⟩
  go_wp2_with fail
  go_ret
  exact ⟨rfl, rfl⟩
/-! results of which one is an entry in a cell of its own -/
theorem load36 (w : World) (q : Nat) (x : Ent) (h0 : w.cell? ⟨q, 0, none⟩ = some (.int .i64 x.1)) (h1 : w.cell? ⟨q, 1, none⟩ = some (.int .i64 x.2)) : (loadVar 36 ⟨q, 0, none⟩).run Try.prog w = .ok (V x) w := by
  have ha : (isAgg 36).run Try.prog w = .ok true w := by kernel_rfl
  have hl := run_loadCells_list (P := Try.prog) w ⟨q, 0, none⟩ [.int .i64 x.1, .int .i64 x.2] (fun j v hv => by
    rw [addr_add]
    match j, hv with
    | 0, hv => simp at hv; subst hv; simpa using h0
    | 1, hv => simp at hv; subst hv; simpa using h1
    | j + 2, hv => simp at hv)
  have hl' : (loadCells ⟨q, 0, none⟩ 2).run Try.prog w = .ok #[.int .i64 x.1, .int .i64 x.2] w := hl
  simp [loadVar, Sem.run_bind, ha, hl', V]
theorem ret_cell {fn : Func} {R : Ending → World → Prop} {c u : Tmp} (tmps : Array Value) (w : World) (q : Nat) (x : Ent) (v : Value) (hres : fn.results = #[.cell c 36, .tmp u]) (hc : tmps.getD c undef = .pointer (some ⟨q, 0, none⟩)) (hu : tmps.getD u undef = v)
    (h0 : w.cell? ⟨q, 0, none⟩ = some (.int .i64 x.1)) (h1 : w.cell? ⟨q, 1, none⟩ = some (.int .i64 x.2)) (h : R (.returned (.tuple #[V x, v])) w) : bodyPost Try.prog fn R Exit.ret { tmps := tmps, defers := [] } w := by
  refine bodyPost_ret (v := .tuple #[V x, v]) ?_ rfl h
  rw [results_cell_tmp hres, hc, hu]
  have : (asAddr (.pointer (some ⟨q, 0, none⟩))).run Try.prog w = .ok ⟨q, 0, none⟩ w := rfl
  rw [this]
  simp [load36 w q x h0 h1]
/-! First -/
def firstL (s : List Ent) : Ent × Bool := match s with
  | [] => ((0, 0), false)
  | x :: _ => (x, true)
def FirstPost (r : Ent × Bool) (w : World) (e : Ending) (w' : World) : Prop := e = .returned (.tuple #[V r.1, .bool r.2]) ∧ Mod None w w'
set_option maxHeartbeats 1600000 in
theorem first_any (w : World) (S : Nat → Prop) (p : Nat) (s : List Ent) (h : AgS w S p s) : Calls Try.prog 18 #[Ptr p] w (FirstPost (firstL s) w) := by
  have HL := hid (fun o => aglen_any (w.alloc o) S p s (h.same ((Mod.refl None w).alloc o)))
  cases s with
  | nil =>
    have HE := hid (fun o => show FirstPost (firstL []) w (.returned (.tuple #[V (0, 0), .bool false])) (w.alloc o) from ⟨rfl, (Mod.refl None w).alloc _⟩)
    clear h
    unfold Ptr at *
    go_enter Try.func18, Try.ntmps18
    go_wp2_with fail
    refine (HL.out _).mono ?_
    rintro e w2 ⟨rfl, rfl⟩
    go_wp2_with fail
    have hb := Blk.new w 36 #[.int .i64 0, .int .i64 0]
    exact ret_cell _ _ w.heap.size (0, 0) (.bool false) rfl rfl rfl (hb.is rfl) (hb.is rfl) (HE.out _)
  | cons x s =>
    obtain ⟨l, ⟨m, lv, b, h⟩, hH, hp, hs⟩ := h
    have hl := hp.length_eq
    rw [List.length_cons] at hl
    have hx : fn l 0 = x := by
      have := head_least hp hs (x := fn l 0) (fn_mem (by omega)) (fun y hy => by
        obtain ⟨i, hi, rfl⟩ := List.getElem_of_mem hy
        rw [← fn_at hi]
        exact hH.least i hi)
      simpa using this.symm
    have h0 := h.obj.is (i := 0) rfl
    have hpl := h.obj.lt
    obtain ⟨g, cap, rest, rfl, _, hb, h1, h2, hcap, hgp, hgb, hat⟩ := h.at (by omega)
    have hgl := hb.lt
    obtain ⟨c1, c2⟩ := hat 0 (by omega)
    rw [hx] at c1 c2
    have hne : (((x :: s).length : Int) == 0) = false := by simp; omega
    have HE := hid (fun o => show FirstPost (firstL (x :: s)) w (.returned (.tuple #[V x, .bool true])) (w.alloc o) from ⟨rfl, (Mod.refl None w).alloc _⟩)
    rw [hl] at h0
    have hpos : (0 : Int) < ((s.length + 1 : Nat) : Int) := by omega
    clear h hH hp hs hat hb hcap hgp hgb hx hl
    unfold Ptr at *
    go_enter Try.func18, Try.ntmps18
    go_wp2_with fail
    refine (HL.out _).mono ?_
    rintro e w2 ⟨rfl, rfl⟩
    go_wp2_with fail
    have hb := Blk.new w 36 #[.int .i64 x.1, .int .i64 x.2]
    exact ret_cell _ _ w.heap.size x (.bool true) rfl rfl rfl (hb.is rfl) (hb.is rfl) (HE.out _)
end Go.Proofs.Ytekobigoekfckaa

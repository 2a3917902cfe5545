/- The agenda's List. -/
import Derived.Test.YtekobigoekfckaaS2
namespace Go.Proofs.Ytekobigoekfckaa
open Go.RowKit

theorem run_empty34 (w : World) : (Instr.buildSlice 34 0 #[]).run Try.prog w = .ok (.slice (some ⟨w.heap.size, 0, none⟩) 0 0) (w.alloc (.cells #[] 36)) := by
  obtain ⟨i, hi, hz, hs, hb⟩ := info_parts v_info36
  simp only [Instr.buildSlice, Sem.run_bind, run_underlying v_und34, Result.andThen_ok, sizeOf, typeInfo, hi, run_program]
  simp [hs, Instr.fill, newRow]
  have e : ∀ f : Nat → Value, (Array.range 0).map f = #[] := fun f => by apply Array.ext <;> simp
  rw [e]
section
variable (ρ : Operand → Value) (dst : Option Tmp) (ty : TypeId) (pos : String) (after : Array Edge) (g : Option (Nat × Bool)) (w : World)
@[go_sem ↓] theorem exec_emp34 : (execOp ρ { dst := dst, op := .buildSlice 34 0 #[], type := ty, pos := pos, after := after, guard := g }).run Try.prog w = .ok (.value (.slice (some ⟨w.heap.size, 0, none⟩) 0 0)) (w.alloc (.cells #[] 36)) := by
  simp only [execOp, List.map_toArray, List.map_nil, Sem.run_bind, run_empty34, Result.andThen_ok]; rfl
end
set_option maxRecDepth 100000 in
set_option maxHeartbeats 800000 in
theorem clone_any (w : World) (a : Option Addr) (n c : Nat) (xs : List Value) (hl : xs.length = n * 2) (hr : RdV w a xs) (h1 : Ones xs) (hn : n < 3000000000000) :
    Calls Try.prog 21 #[.slice a n c] w (ClonePost 36 2 n xs w) := by
  obtain ⟨i, hi, hz, hs, hb⟩ := info_parts v_info36
  cases a with
  | none =>
    have hx : xs = [] := by
      rcases hr with h | ⟨_, _, h, _⟩
      · exact h
      · cases h
    subst hx
    obtain rfl : n = 0 := by
      have : n * 2 = 0 := by simpa using hl.symm
      omega
    have hcmp := Lib.run_eql_slice_nil (P := Try.prog) w 34 36 none 0 c 0 0 v_und34
    clear hn hl hr
    go_enter Try.func21, Try.ntmps21
    go_wp2
    go_ret
    exact ⟨none, 0, rfl, World.ownsRow_nil _ _ _ _, Mod.refl _ _, fun g hg => by cases hg⟩
  | some a =>
  have HR := hid hr
  have HH := hid (And.intro hl h1)
  have HN := hid hn
  clear hr hl h1 hn
  have hcmp := Lib.run_eql_slice_nil (P := Try.prog) w 34 36 (some a) n c 0 0 v_und34
  go_enter Try.func21, Try.ntmps21
  go_wp2_with (at_builtin; go_loud (refine wpList_plain rfl (fun K hK => wp_append_R (.tmp 5) (.tmp 6) 34 rfl 36 i (.agg #[.int .i64 0, .int .i64 0]) 2 16 v_und34 hi hz hs hb rfl (by decide) _ 0 [] rfl (owns_empty w 36 2) _ n c xs rfl HH.out.1 (((Mod.refl None w).alloc _).rdv HR.out (fun _ _ h => h)) HH.out.2 (by have := HN.out; unfold maxLen; omega) (by have := HN.out; omega) (fun va vc w' h2 h3 h4 => hK _ _ ?_))); have HP := hid (clone_end h2.out h3.out h4.out); clear h2 h3 h4)
  go_ret
  exact HP.out
theorem entC_ones (l : List Ent) : Ones (entC l) := by
  intro v hv
  unfold entC at hv
  rw [List.mem_flatMap] at hv
  obtain ⟨x, _, hx⟩ := hv
  exact e_ones x v hx
/-- a row of entries in a block that is not older than B -/
def Row (w : World) (B : Nat) (a : Option Addr) (s : List Ent) : Prop := s = [] ∨ ∃ g rest, a = some ⟨g, 0, none⟩ ∧ B ≤ g ∧ Blk w g 36 (entC s ++ rest)
def ListPost (s : List Ent) (w : World) (e : Ending) (w' : World) : Prop := ∃ a c, e = .returned (.slice a s.length c) ∧ Row w' w.heap.size a s ∧ Mod None w w'
set_option maxHeartbeats 1600000 in
theorem list_any (w : World) (S : Nat → Prop) (p : Nat) (s : List Ent) (h : AgS w S p s) (hfew : s.length < 1000000000000) : Calls Try.prog 12 #[Ptr p] w (ListPost s w) := by
  obtain ⟨l, ⟨m, lv, b, h⟩, _, hp, hs⟩ := h
  have hl := hp.length_eq
  have h0 := h.obj.is (i := 0) rfl
  obtain ⟨a, c, rfl, _, _⟩ := h.shape
  have HC := hid (clone_any w a l.length c (entC l) (entC_length l) (h.row.rdv rfl) (entC_ones l) (by omega))
  have HS := hid (sortL_eq hp hs)
  by_cases hn : l.length = 0
  · have hs0 : s = [] := List.eq_nil_of_length_eq_zero (by omega)
    subst hs0
    rw [hn] at h0 HC
    clear h hp hs HS hl
    unfold Ptr
    go_enter Try.func12, Try.ntmps12
    go_wp2_with fail
    refine HC.out.mono ?_
    rintro e w2 ⟨a2, c2, rfl, _, hm, _⟩
    have HM := hid hm
    clear hm HC
    go_wp2_with fail
    refine (sort_none w2 a2 c2).mono ?_
    rintro e w3 ⟨rfl, rfl⟩
    go_wp2_with fail
    go_ret
    exact ⟨a2, c2, rfl, .inl rfl, HM.out⟩
  · have HL := hid (show 0 < l.length ∧ l.length < 4611686018427387904 by omega)
    have hsl : s.length = l.length := hl.symm
    have HSL := hid hsl
    clear h hp hs hl hsl hn
    unfold Ptr
    go_enter Try.func12, Try.ntmps12
    go_wp2_with fail
    refine HC.out.mono ?_
    rintro e w2 ⟨a2, c2, rfl, ho, hm, hnew⟩
    obtain ⟨g, cap, rest, hv, _, hb, _⟩ := (show OwnR w2 (fun _ => True) 36 2 _ l.length (entC l) from ⟨ho, fun _ _ => trivial⟩).open1 HL.out.1
    obtain ⟨rfl, rfl⟩ : a2 = some ⟨g, 0, none⟩ ∧ c2 = cap := by simpa using hv
    have hg := hnew g rfl
    have HM := hid hm
    have HG := hid hg
    have HSo := hid (sort_any w2 g c2 l rest hb HL.out.2)
    rw [HS.out] at HSo
    clear hm hnew ho hb hg hv HC
    go_wp2_with fail
    refine HSo.out.mono ?_
    rintro e w3 ⟨rfl, hb3, hm3⟩
    have HE := hid (show ListPost s w (.returned (.slice (some ⟨g, 0, none⟩) l.length c2)) w3 from ⟨_, c2, by rw [HSL.out], .inr ⟨g, rest, rfl, HG.out, hb3⟩, HM.out.then hm3 (fun k hk e => by have := HG.out; omega)⟩)
    clear hb3 hm3 HSo
    go_wp2_with fail
    go_ret
    exact HE.out
end Go.Proofs.Ytekobigoekfckaa

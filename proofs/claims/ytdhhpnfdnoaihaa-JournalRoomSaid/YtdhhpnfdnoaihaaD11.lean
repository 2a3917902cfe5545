/- Clones of a disk's rows. -/
import Derived.Lib.SliceRun
import Derived.Test.YtdhhpnfdnoaihaaD8
namespace Go.Proofs.Ytdhhpnfdnoaihaa
open Go.RowKit

theorem run_empty99 (w : World) : (Instr.buildSlice 99 0 #[]).run Try.prog w = .ok (.slice (some ⟨w.heap.size, 0, none⟩) 0 0) (w.alloc (.cells #[] 105)) := by
  obtain ⟨i, hi, hz, hs, hb⟩ := info_parts d_info105
  simp only [Instr.buildSlice, Sem.run_bind, run_underlying d_und99, Result.andThen_ok, sizeOf, typeInfo, hi, run_program]
  simp [hs, Instr.fill, newRow]
  have e : ∀ f : Nat → Value, (Array.range 0).map f = #[] := fun f => by apply Array.ext <;> simp
  rw [e]
theorem run_empty100 (w : World) : (Instr.buildSlice 100 0 #[]).run Try.prog w = .ok (.slice (some ⟨w.heap.size, 0, none⟩) 0 0) (w.alloc (.cells #[] 107)) := by
  obtain ⟨i, hi, hz, hs, hb⟩ := info_parts d_info107
  simp only [Instr.buildSlice, Sem.run_bind, run_underlying d_und100, Result.andThen_ok, sizeOf, typeInfo, hi, run_program]
  simp [hs, Instr.fill, newRow]
  have e : ∀ f : Nat → Value, (Array.range 0).map f = #[] := fun f => by apply Array.ext <;> simp
  rw [e]
theorem owns_empty (w : World) (e : TypeId) (size : Nat) : (w.alloc (.cells #[] e)).ownsRow 0 e size (.slice (some ⟨w.heap.size, 0, none⟩) 0 0) 0 [] :=
  ⟨by simp, .inr ⟨w.heap.size, 0, #[], rfl, Nat.zero_le _, heap_alloc_new w _, by simp, by simp [maxLen], by simp, by simp⟩⟩
section
variable (ρ : Operand → Value) (dst : Option Tmp) (ty : TypeId) (pos : String) (after : Array Edge) (g : Option (Nat × Bool)) (w : World)
@[go_sem ↓] theorem exec_emp99 : (execOp ρ { dst := dst, op := .buildSlice 99 0 #[], type := ty, pos := pos, after := after, guard := g }).run Try.prog w = .ok (.value (.slice (some ⟨w.heap.size, 0, none⟩) 0 0)) (w.alloc (.cells #[] 105)) := by
  simp only [execOp, List.map_toArray, List.map_nil, Sem.run_bind, run_empty99, Result.andThen_ok]; rfl
@[go_sem ↓] theorem exec_emp100 : (execOp ρ { dst := dst, op := .buildSlice 100 0 #[], type := ty, pos := pos, after := after, guard := g }).run Try.prog w = .ok (.value (.slice (some ⟨w.heap.size, 0, none⟩) 0 0)) (w.alloc (.cells #[] 107)) := by
  simp only [execOp, List.map_toArray, List.map_nil, Sem.run_bind, run_empty100, Result.andThen_ok]; rfl
end
/-- a row of the call's own -/
def ClonePost (e size n : Nat) (xs : List Value) (w : World) (en : Ending) (w' : World) : Prop :=
  ∃ a c, en = .returned (.slice a n c) ∧ w'.ownsRow 0 e size (.slice a n c) n xs ∧ Mod None w w' ∧ ∀ g, (Value.slice a n c).ownBlock = some g → w.heap.size ≤ g
theorem OwnR.rdv {w : World} {S : Nat → Prop} {e size n : Nat} {v : Value} {xs : List Value} (h : OwnR w S e size v n xs) {a : Option Addr} {c : Nat} (hv : v = .slice a n c) : RdV w a xs := by
  subst hv
  by_cases h0 : n = 0
  · subst h0
    left
    have := h.1.1
    simpa using this
  · obtain ⟨g, cap, rest, he, _, hb, _⟩ := h.open1 (by omega)
    obtain ⟨rfl, _⟩ : a = some ⟨g, 0, none⟩ ∧ c = cap := by simpa using he
    exact hb.rdv 0 (fun i hi => by rw [Nat.zero_add, List.getElem?_append_left hi])
theorem clone_end {w w' : World} {e size n : Nat} {xs : List Value} {o : Obj} {va : Option Addr} {vc : Nat} (h2 : w'.ownsRow 0 e size (.slice va (0 + n) vc) (0 + n) ([] ++ xs))
    (h3 : Mod (fun k => (Value.slice (some ⟨w.heap.size, 0, none⟩) 0 0).ownBlock = some k) (w.alloc o) w')
    (h4 : ∀ g, (Value.slice va (0 + n) vc).ownBlock = some g → (Value.slice (some ⟨w.heap.size, 0, none⟩) 0 0).ownBlock = some g ∨ ((w.alloc o).heap.size ≤ g ∧ g < w'.heap.size)) :
    ClonePost e size n xs w (.returned (.slice va n vc)) w' := by
  rw [Nat.zero_add] at h2 h4
  refine ⟨va, vc, rfl, h2, ((Mod.refl None w).alloc o).then h3 (fun i hi hb => ?_), fun g hg => ?_⟩
  · have e : w.heap.size = i := by simpa [Value.ownBlock] using hb
    omega
  · rcases h4 g hg with h | h
    · have e : w.heap.size = g := by simpa [Value.ownBlock] using h
      omega
    · have := h.1
      simp at this; omega
set_option maxRecDepth 100000 in
set_option maxHeartbeats 800000 in
theorem clone99_any (w : World) (a : Option Addr) (n c : Nat) (xs : List Value) (hl : xs.length = n * 64) (hr : RdV w a xs) (h1 : Ones xs) (hn : n ≤ 65536) (h0 : 0 < n) :
    Calls Try.prog 68 #[.slice a n c] w (ClonePost 105 64 n xs w) := by
  obtain ⟨i, hi, hz, hs, hb⟩ := info_parts d_info105
  rcases hr with rfl | ⟨b, o, rfl, hc⟩
  · simp at hl; omega
  have HR := hid (show RdV w (some ⟨b, o, none⟩) xs from .inr ⟨b, o, rfl, hc⟩)
  have HH := hid (And.intro hl h1)
  have HN := hid hn
  clear hc hl h1 hn
  have hcmp := Lib.run_eql_slice_nil (P := Try.prog) w 99 105 (some ⟨b, o, none⟩) n c 0 0 d_und99
  go_enter Try.func68, Try.ntmps68
  go_wp2_with (at_builtin; go_loud (refine wpList_plain rfl (fun K hK => wp_append_R (.tmp 5) (.tmp 6) 99 rfl 105 i (Agg (sC zeros64)) 64 64 d_und99 hi hz hs hb (sC_length zeros64) (by decide) _ 0 [] rfl (owns_empty w 105 64) _ n c xs rfl HH.out.1 (((Mod.refl None w).alloc _).rdv HR.out (fun _ _ h => h)) HH.out.2 (by have := HN.out; unfold maxLen; omega) (by have := HN.out; omega) (fun va vc w' h2 h3 h4 => hK _ _ ?_))); have HP := hid (clone_end h2.out h3.out h4.out); clear h2 h3 h4)
  go_ret
  exact HP.out
set_option maxRecDepth 100000 in
set_option maxHeartbeats 800000 in
theorem clone100_any (w : World) (a : Option Addr) (n c : Nat) (xs : List Value) (hl : xs.length = n * 65) (hr : RdV w a xs) (h1 : Ones xs) (hn : n < 3000000000000) :
    Calls Try.prog 69 #[.slice a n c] w (ClonePost 107 65 n xs w) := by
  obtain ⟨i, hi, hz, hs, hb⟩ := info_parts d_info107
  cases a with
  | none =>
    have hx : xs = [] := by
      rcases hr with h | ⟨_, _, h, _⟩
      · exact h
      · cases h
    subst hx
    obtain rfl : n = 0 := by
      have : n * 65 = 0 := by simpa using hl.symm
      omega
    have hcmp := Lib.run_eql_slice_nil (P := Try.prog) w 100 107 none 0 c 0 0 d_und100
    clear hn hl hr
    go_enter Try.func69, Try.ntmps69
    go_wp2
    go_ret
    exact ⟨none, 0, rfl, World.ownsRow_nil _ _ _ _, Mod.refl _ _, fun g hg => by cases hg⟩
  | some a =>
  have HR := hid hr
  have HH := hid (And.intro hl h1)
  have HN := hid hn
  clear hr hl h1 hn
  have hcmp := Lib.run_eql_slice_nil (P := Try.prog) w 100 107 (some a) n c 0 0 d_und100
  go_enter Try.func69, Try.ntmps69
  go_wp2_with (at_builtin; go_loud (refine wpList_plain rfl (fun K hK => wp_append_R (.tmp 5) (.tmp 6) 100 rfl 107 i (Agg (wC 0 zeros64)) 65 72 d_und100 hi hz hs hb (wC_length 0 zeros64) (by decide) _ 0 [] rfl (owns_empty w 107 65) _ n c xs rfl HH.out.1 (((Mod.refl None w).alloc _).rdv HR.out (fun _ _ h => h)) HH.out.2 (by have := HN.out; unfold maxLen; omega) (by have := HN.out; omega) (fun va vc w' h2 h3 h4 => hK _ _ ?_))); have HP := hid (clone_end h2.out h3.out h4.out); clear h2 h3 h4)
  go_ret
  exact HP.out
end Go.Proofs.Ytdhhpnfdnoaihaa

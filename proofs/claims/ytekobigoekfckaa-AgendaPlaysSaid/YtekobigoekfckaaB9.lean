/- The heap's up: through the interface. -/
import Derived.Test.YtekobigoekfckaaB8
namespace Go.Proofs.Ytekobigoekfckaa
open Go.RowKit

/-- the interface value that holds a pointer to the entries -/
def If (p : Nat) : Value := .iface 57 (Ptr p)
@[go_sem] theorem meth_Len (k : Nat) (v : Value) (w : World) : (method (k + 1) 57 v "Len").run Try.prog w = .ok (27, v) w := by kernel_rfl
@[go_sem] theorem meth_Less (k : Nat) (v : Value) (w : World) : (method (k + 1) 57 v "Less").run Try.prog w = .ok (64, v) w := by kernel_rfl
@[go_sem] theorem meth_Swap (k : Nat) (v : Value) (w : World) : (method (k + 1) 57 v "Swap").run Try.prog w = .ok (67, v) w := by kernel_rfl
@[go_sem] theorem meth_Push (k : Nat) (v : Value) (w : World) : (method (k + 1) 57 v "Push").run Try.prog w = .ok (66, v) w := by kernel_rfl
@[go_sem] theorem meth_Pop (k : Nat) (v : Value) (w : World) : (method (k + 1) 57 v "Pop").run Try.prog w = .ok (65, v) w := by kernel_rfl
/-- the heap is put in order among the first N entries; those behind stay -/
structure Turned (w : World) (S : Nat → Prop) (p : Nat) (l : List Ent) (N : Nat) (w' : World) (l' : List Ent) : Prop where
  ag : IsAg w' S p l'
  perm : l'.Perm l
  rest : ∀ k, N ≤ k → fn l' k = fn l k
  mod : Mod S w w'
theorem Turned.start {w : World} {S : Nat → Prop} {p : Nat} {l : List Ent} (h : IsAg w S p l) (N : Nat) : Turned w S p l N w l := ⟨h, List.Perm.refl _, fun _ _ => rfl, Mod.refl _ _⟩
theorem Turned.len {w w' : World} {S : Nat → Prop} {p : Nat} {l l' : List Ent} {N : Nat} (h : Turned w S p l N w' l') : l'.length = l.length := h.perm.length_eq
theorem IsAg.same {w w' : World} {S : Nat → Prop} {p : Nat} {l : List Ent} (h : IsAg w S p l) (hm : Mod None w w') : IsAg w' S p l := by
  obtain ⟨m, lv, b, h⟩ := h
  exact ⟨m, lv, b, AgAt.same h hm⟩
theorem Turned.same {w w' w'' : World} {S : Nat → Prop} {p : Nat} {l l' : List Ent} {N : Nat} (h : Turned w S p l N w' l') (hm : Mod None w' w'') : Turned w S p l N w'' l' :=
  ⟨h.ag.same hm, h.perm, h.rest, h.mod.then hm (fun _ _ h => h.elim)⟩
theorem Turned.swap {w w' w'' : World} {S : Nat → Prop} {p : Nat} {l l' : List Ent} {N : Nat} (h : Turned w S p l N w' l') {i j : Nat} (hi : i < l.length) (hj : j < l.length) (hiN : i < N) (hjN : j < N) (ha : IsAg w'' S p (swl l' i j)) (hm : Mod S w' w'') :
    Turned w S p l N w'' (swl l' i j) := by
  have hl := h.len
  refine ⟨ha, (swl_perm l' i j (by omega) (by omega)).trans h.perm, fun k hk => ?_, h.mod.trans hm⟩
  rw [fn_swl l' i j (by omega) (by omega), swp_o _ (by omega) (by omega)]
  exact h.rest k hk
def UpPost (S : Nat → Prop) (p : Nat) (l : List Ent) (N : Nat) (w : World) (e : Ending) (w' : World) : Prop :=
  e = .returned (.tuple #[]) ∧ ∃ l', Turned w S p l N w' l' ∧ Heap (fn l') N
set_option maxHeartbeats 3200000 in
theorem up_any (w : World) (S : Nat → Prop) (p : Nat) (l : List Ent) (h : IsAg w S p l) (N : Nat) (hN : N ≤ l.length) (j : Nat) (hj : j < N) (hu : UpOk (fn l) N j) (hfew : l.length < 3000000000000) :
    Calls Try.prog 29 #[If p, .int .i64 (j : Int)] w (UpPost S p l N w) := by
  have HU := hid hu
  have HS := hid (Turned.start h N)
  clear hu h
  unfold If
  go_enter Try.func29, Try.ntmps29
  go_wp2_with fail
  go_loopw [1] (fun i wr => ∃ (k : Nat), k < N ∧ i = .int .i64 k ∧ Hid (∃ l', Turned w S p l N wr l' ∧ UpOk (fn l') N k)) (fun i _ => (intOf i).toNat)
  case atStart => exact ⟨j, hj, rfl, ⟨l, HS.out, HU.out⟩⟩
  case round =>
    obtain ⟨k, hk, rfl, hr⟩ := hrel
    clear HU HS hj
    obtain ⟨l', hT, hU⟩ := hr.out
    clear hr
    have hl := hT.len
    obtain ⟨i, hi⟩ : ∃ i, (k - 1) / 2 = i := ⟨_, rfl⟩
    have hq : ((k : Int) - 1).tdiv 2 = (i : Int) := by
      rcases Nat.eq_zero_or_pos k with h0 | h0
      · subst h0; subst hi; rfl
      · rw [Int.tdiv_eq_ediv_of_nonneg (by omega)]; omega
    by_cases h0 : k = 0
    · obtain rfl : i = k := by omega
      have hee : ((i : Int) == (i : Int)) = true := by simp
      have HE := hid (show UpPost S p l N w (.returned (.tuple #[])) wr from ⟨rfl, l', hT, hU.done (.inl (by omega))⟩)
      clear hT hU
      go_wp2_with fail
      go_end0
      exact HE.out
    · have hne : ((i : Int) == (k : Int)) = false := by simp; omega
      have HT := hid hT
      have HL := hid (less_any wr S p l' hT.ag k i (by omega) (by omega))
      by_cases hb : before (fn l' k) (fn l' i) = true
      · have HU := hid (hU.step hk (by omega) (by rw [hi]; exact hb))
        rw [hi] at HU
        clear hT hU
        go_wp2_with fail
        refine HL.out.mono ?_
        rintro e w2 ⟨rfl, hm⟩
        rw [hb]
        have HT2 := hid (HT.out.same hm)
        clear hm HT HL
        have HS := hid (swap_any w2 S p l' HT2.out.ag (by unfold maxLen; omega) i k (by omega) (by omega))
        go_wp2_with fail
        refine HS.out.mono ?_
        rintro e w3 ⟨rfl, ha, hm⟩
        have HT3 := hid (HT2.out.swap (i := i) (j := k) (by omega) (by omega) (by omega) hk ha hm)
        rw [← fn_swl l' i k (by omega) (by omega)] at HU
        clear ha hm HT2 HS
        go_wp2_with fail
        go_roundw
        case rel => exact ⟨i, by omega, rfl, _, HT3.out, HU.out⟩
        case measure => simp [intOf]; omega
      · have HU := hid (hU.done (.inr (by rw [hi]; exact hb)))
        rw [Bool.not_eq_true] at hb
        clear hT hU
        go_wp2_with fail
        refine HL.out.mono ?_
        rintro e w2 ⟨rfl, hm⟩
        rw [hb]
        have HE := hid (show UpPost S p l N w (.returned (.tuple #[])) w2 from ⟨rfl, l', HT.out.same hm, HU.out⟩)
        clear hm HT HL HU
        go_wp2_with fail
        go_end0
        exact HE.out
end Go.Proofs.Ytekobigoekfckaa

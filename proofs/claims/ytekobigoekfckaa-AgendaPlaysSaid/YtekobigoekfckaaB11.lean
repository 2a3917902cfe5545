/- container/heap's Fix, Push, Pop, Remove. -/
import Derived.Test.YtekobigoekfckaaB10
namespace Go.Proofs.Ytekobigoekfckaa
open Go.RowKit

theorem Heap.congr {f g : Nat → Ent} {n : Nat} (h : Heap f n) (hg : ∀ k, k < n → g k = f k) : Heap g n := fun k hk hn => by
  rw [hg k hn, hg _ (by omega)]; exact h k hk hn
theorem Heap.fixN {f g : Nat → Ent} {n i : Nat} (h : Heap f n) (hg : ∀ k, k < n → k ≠ i → g k = f k) : FixOk g n i where
  rest k hk hn h1 h2 := by rw [hg k hn h1, hg _ (by omega) h2]; exact h k hk hn
  far k hk hn hp hi := by
    rw [hg k hn (by omega), hg _ (by omega) (by omega)]
    have h1 := h k hk hn
    have h2 := h i hi (by omega)
    rw [hp] at h1
    exact le_trans' h2 h1
/-- a call that may have written S, and S' is what it left -/
structure Turn (S S' : Nat → Prop) (w w' : World) : Prop where
  mod : Mod S w w'
  old : ∀ k, k < w.heap.size → S' k → S k
theorem Turn.same {S : Nat → Prop} {w w' : World} (h : Mod S w w') : Turn S S w w' := ⟨h, fun _ _ h => h⟩
theorem Turn.trans {S S' S'' : Nat → Prop} {a b c : World} (h : Turn S S' a b) (k : Turn S' S'' b c) : Turn S S'' a c :=
  ⟨h.mod.then k.mod (fun i hi hs => h.old i hi hs), fun i hi hs => h.old i hi (k.old i (Nat.lt_of_lt_of_le hi h.mod.size) hs)⟩
theorem Grow.turn {S : Nat → Prop} {w w' : World} (h : Mod S w w') : Turn S (Grow S w w') w w' :=
  ⟨h, fun k hk hg => by rcases hg with hg | hg; exact hg; omega⟩
def FixPost (S : Nat → Prop) (p : Nat) (l : List Ent) (w : World) (e : Ending) (w' : World) : Prop :=
  e = .returned (.tuple #[]) ∧ ∃ l', IsAg w' S p l' ∧ l'.Perm l ∧ Heap (fn l') l'.length ∧ Mod S w w'
set_option maxHeartbeats 3200000 in
theorem fix_any (w : World) (S : Nat → Prop) (p : Nat) (l : List Ent) (h : IsAg w S p l) (i : Nat) (hi : i < l.length) (hu : FixOk (fn l) l.length i) (hfew : l.length < 3000000000000) :
    Calls Try.prog 19 #[If p, .int .i64 (i : Int)] w (FixPost S p l w) := by
  have HL := hid (len_any w S p l h)
  have HD := hid (down_any w S p l h l.length (Nat.le_refl _) i (by omega) hu hfew)
  have HI := hid hi
  clear h hu hi
  unfold If at *
  go_enter Try.func19, Try.ntmps19
  go_wp2_with fail
  refine HL.out.mono ?_
  rintro e w2 ⟨rfl, rfl⟩
  go_wp2_with fail
  refine HD.out.mono ?_
  rintro e w2 ⟨l', r, rfl, hT, h1, h2⟩
  have hl := hT.len
  cases r with
  | true =>
    have HE := hid (show FixPost S p l w (.returned (.tuple #[])) w2 from ⟨rfl, l', hT.ag, hT.perm, by rw [hl]; exact h1 rfl, hT.mod⟩)
    clear hT h1 h2 HL HD
    go_wp2_with fail
    go_end0
    exact HE.out
  | false =>
    obtain ⟨rfl, hU⟩ := h2 rfl
    have HU := hid (up_any w2 S p l' hT.ag l'.length (Nat.le_refl _) i HI.out hU hfew)
    have HM := hid hT.mod
    unfold If at HU
    clear hT h1 h2 HL HD
    go_wp2_with fail
    refine HU.out.mono ?_
    rintro e w3 ⟨rfl, l2, hT2, hH⟩
    have hl2 := hT2.len
    have HE := hid (show FixPost S p l' w (.returned (.tuple #[])) w3 from ⟨rfl, l2, hT2.ag, hT2.perm, by rw [hl2]; exact hH, HM.out.trans hT2.mod⟩)
    clear hT2 hH HU
    go_wp2_with fail
    go_end0
    exact HE.out
def PushPost (S : Nat → Prop) (p : Nat) (l : List Ent) (x : Ent) (w : World) (e : Ending) (w' : World) : Prop :=
  e = .returned (.tuple #[]) ∧ ∃ S' l', IsAg w' S' p l' ∧ l'.Perm (l ++ [x]) ∧ Heap (fn l') l'.length ∧ Turn S S' w w'
theorem fn_append {l : List Ent} {x : Ent} {k : Nat} (h : k < l.length) : fn (l ++ [x]) k = fn l k := by
  unfold fn; rw [List.getD_eq_getElem?_getD, List.getD_eq_getElem?_getD, List.getElem?_append_left h]
set_option maxHeartbeats 3200000 in
theorem hpush_any (w : World) (S : Nat → Prop) (p : Nat) (l : List Ent) (h : IsAg w S p l) (x : Ent) (hx : ∀ y ∈ l, y.1 ≠ x.1) (hbx : In64 x.1 ∧ In64 x.2) (hH : Heap (fn l) l.length) (hfew : l.length < 1000000000000) :
    Calls Try.prog 20 #[If p, IfE x] w (PushPost S p l x w) := by
  have HP := hid (push_any w S p l h x hx hbx (by omega))
  have hlen : (l ++ [x]).length = l.length + 1 := by simp
  have HU := hid (show UpOk (fn (l ++ [x])) (l ++ [x]).length l.length by rw [hlen]; exact hH.push _ (fun k hk => fn_append hk))
  clear h hH
  unfold If IfE at *
  go_enter Try.func20, Try.ntmps20
  go_wp2_with fail
  refine HP.out.mono ?_
  rintro e w2 ⟨rfl, ha, hm⟩
  have HL := hid (len_any w2 _ p _ ha)
  have HU2 := hid (up_any w2 _ p _ ha (l ++ [x]).length (Nat.le_refl _) l.length (by omega) HU.out (by omega))
  have HM := hid (Grow.turn hm)
  unfold LenPost at HL
  rw [hlen] at HL
  unfold If at HU2
  clear ha hm HP HU
  go_wp2_with fail
  refine HL.out.mono ?_
  rintro e w3 ⟨rfl, rfl⟩
  go_wp2_with fail
  refine HU2.out.mono ?_
  rintro e w3 ⟨rfl, l2, hT2, hH⟩
  have hl2 := hT2.len
  have HE := hid (show PushPost S p l x w (.returned (.tuple #[])) w3 from ⟨rfl, _, l2, hT2.ag, hT2.perm, by rw [hl2]; exact hH, HM.out.trans (Turn.same hT2.mod)⟩)
  clear hT2 hH HU2 HL HM
  go_wp2_with fail
  go_end0
  exact HE.out
def HPopPost (S : Nat → Prop) (p : Nat) (l : List Ent) (x : Ent) (w : World) (e : Ending) (w' : World) : Prop :=
  e = .returned (IfE x) ∧ ∃ l', IsAg w' S p l' ∧ (x :: l').Perm l ∧ Heap (fn l') l'.length ∧ Mod S w w'
theorem take_perm (l : List Ent) (n : Nat) (hn : l.length = n + 1) : (fn l n :: l.take n).Perm l := by
  have h : l = l.take n ++ [fn l n] := by
    rw [fn_at (by omega)]
    conv => lhs; rw [← List.take_append_drop n l]
    rw [List.drop_eq_getElem_cons (by omega), List.drop_of_length_le (by omega)]
  conv => rhs; rw [h]
  exact (List.perm_append_singleton _ _).symm
theorem fn_take {l : List Ent} {n k : Nat} (h : k < n) : fn (l.take n) k = fn l k := by
  unfold fn; rw [List.getD_eq_getElem?_getD, List.getD_eq_getElem?_getD, List.getElem?_take, if_pos h]
/-- the last step of Pop and Remove -/
theorem pop_last {w w2 w3 : World} {S : Nat → Prop} {p : Nat} {l l2 : List Ent} {x : Ent} {n : Nat} (hn : l.length = n + 1) (hp : l2.Perm l) (hH : Heap (fn l2) n) (hx : fn l2 n = x) (ha : IsAg w3 S p (l2.take n)) (hm : Mod S w w2) (hm3 : Mod S w2 w3) :
    HPopPost S p l x w (.returned (IfE x)) w3 := by
  have hl2 : l2.length = n + 1 := by rw [hp.length_eq]; exact hn
  refine ⟨rfl, l2.take n, ha, ?_, ?_, hm.trans hm3⟩
  · rw [← hx]; exact (take_perm l2 n hl2).trans hp
  · have : (l2.take n).length = n := by rw [List.length_take]; omega
    rw [this]
    exact hH.congr (fun k hk => fn_take hk)
theorem swap_fix {l : List Ent} {n i : Nat} (hn : l.length = n + 1) (hi : i ≤ n) (hH : Heap (fn l) l.length) : FixOk (fn (swl l i n)) n i := by
  have h : Heap (fn l) n := hH.mono (by omega)
  refine h.fixN (fun k hk hki => ?_)
  rw [fn_swl l i n (by omega) (by omega), swp_o _ hki (by omega)]
set_option maxHeartbeats 3200000 in
theorem hpop_any (w : World) (S : Nat → Prop) (p : Nat) (l : List Ent) (h : IsAg w S p l) (n : Nat) (hn : l.length = n + 1) (hH : Heap (fn l) l.length) (hfew : l.length < 1000000000000) :
    Calls Try.prog 26 #[If p] w (HPopPost S p l (fn l 0) w) := by
  have HL := hid (len_any w S p l h)
  unfold LenPost at HL
  rw [hn] at HL
  have HS := hid (swap_any w S p l h (by unfold maxLen; omega) 0 n (by omega) (by omega))
  have HF := hid (swap_fix (i := 0) hn (by omega) hH)
  have HN := hid hn
  have hfew' : n < 1000000000000 := by omega
  clear h hH hn hfew
  unfold If at *
  go_enter Try.func26, Try.ntmps26
  go_wp2_with fail
  refine HL.out.mono ?_
  rintro e w2 ⟨rfl, rfl⟩
  go_wp2_with fail
  refine HS.out.mono ?_
  rintro e w2 ⟨rfl, ha, hm⟩
  have hls : (swl l 0 n).length = n + 1 := by rw [swl_len]; exact HN.out
  have HD := hid (down_any w2 S p _ ha n (by omega) 0 (by omega) HF.out (by omega))
  have HM := hid hm
  unfold If at HD
  clear ha hm HS HL HF
  go_wp2_with fail
  refine HD.out.mono ?_
  rintro e w3 ⟨l2, r, rfl, hT, h1, h2⟩
  have hHp : Heap (fn l2) n := by
    cases r with
    | true => exact h1 rfl
    | false =>
      obtain ⟨rfl, hU⟩ := h2 rfl
      exact hU.done (.inl rfl)
  have hl2 : l2.length = n + 1 := by rw [hT.len, hls]
  have hx : fn l2 n = fn l 0 := by
    rw [hT.rest n (Nat.le_refl _), fn_swl l 0 n (by have := HN.out; omega) (by have := HN.out; omega), swp_j]
  have HP := hid (pop_any w3 S p l2 hT.ag n hl2)
  have HE := hid (fun w4 ha hm => pop_last (S := S) (p := p) (w := w) (w2 := w3) (w3 := w4) (x := fn l 0) HN.out (hT.perm.trans (swl_perm l 0 n (by have := HN.out; omega) (by have := HN.out; omega))) hHp hx ha (HM.out.trans hT.mod) hm)
  rw [hx] at HP
  clear hT h1 h2 HD hHp hl2 hx
  go_wp2_with fail
  refine HP.out.mono ?_
  rintro e w4 ⟨rfl, ha, hm⟩
  have HE2 := hid (HE.out w4 ha hm)
  clear ha hm HE HP
  unfold IfE at *
  go_wp2_with fail
  go_ret
  exact HE2.out
set_option maxHeartbeats 3200000 in
theorem remove_any (w : World) (S : Nat → Prop) (p : Nat) (l : List Ent) (h : IsAg w S p l) (n : Nat) (hn : l.length = n + 1) (i : Nat) (hi : i < l.length) (hH : Heap (fn l) l.length) (hfew : l.length < 1000000000000) :
    Calls Try.prog 25 #[If p, .int .i64 (i : Int)] w (HPopPost S p l (fn l i) w) := by
  have HL := hid (len_any w S p l h)
  unfold LenPost at HL
  rw [hn] at HL
  have HN := hid hn
  have hfew' : n < 1000000000000 := by omega
  by_cases hin : i = n
  · subst hin
    have HP := hid (pop_any w S p l h i hn)
    have HE := hid (fun w4 ha hm => pop_last (S := S) (p := p) (w := w) (w2 := w) (w3 := w4) (x := fn l i) hn (List.Perm.refl l) (hH.mono (by omega)) rfl ha (Mod.refl _ _) hm)
    clear h hH hn hfew hi
    unfold If at *
    go_enter Try.func25, Try.ntmps25
    go_wp2_with fail
    refine HL.out.mono ?_
    rintro e w2 ⟨rfl, rfl⟩
    go_wp2_with fail
    refine HP.out.mono ?_
    rintro e w4 ⟨rfl, ha, hm⟩
    have HE2 := hid (HE.out w4 ha hm)
    clear ha hm HE HP
    unfold IfE at *
    go_wp2_with fail
    go_ret
    exact HE2.out
  · have hni : ((n : Int) != (i : Int)) = true := by simp; omega
    have HS := hid (swap_any w S p l h (by unfold maxLen; omega) i n (by omega) (by omega))
    have HF := hid (swap_fix (i := i) hn (by omega) hH)
    have HI := hid (show i < n by omega)
    clear h hH hn hfew hin hi
    unfold If at *
    go_enter Try.func25, Try.ntmps25
    go_wp2_with fail
    refine HL.out.mono ?_
    rintro e w2 ⟨rfl, rfl⟩
    go_wp2_with fail
    refine HS.out.mono ?_
    rintro e w2 ⟨rfl, ha, hm⟩
    have hls : (swl l i n).length = n + 1 := by rw [swl_len]; exact HN.out
    have hin := HI.out
    have HD := hid (down_any w2 S p _ ha n (by omega) i (by omega) HF.out (by omega))
    have HM := hid hm
    unfold If at HD
    clear ha hm HS HL HF
    go_wp2_with fail
    refine HD.out.mono ?_
    rintro e w3 ⟨l2, r, rfl, hT, h1, h2⟩
    have hl2 : l2.length = n + 1 := by rw [hT.len, hls]
    have hp2 : l2.Perm l := hT.perm.trans (swl_perm l i n (by have := HN.out; omega) (by have := HN.out; omega))
    have hx : fn l2 n = fn l i := by
      rw [hT.rest n (Nat.le_refl _), fn_swl l i n (by have := HN.out; omega) (by have := HN.out; omega), swp_j]
    cases r with
    | true =>
      have HP := hid (pop_any w3 S p l2 hT.ag n hl2)
      have HE := hid (fun w4 ha hm => pop_last (S := S) (p := p) (w := w) (w2 := w3) (w3 := w4) (x := fn l i) HN.out hp2 (h1 rfl) hx ha (HM.out.trans hT.mod) hm)
      rw [hx] at HP
      clear hT h1 h2 HD hl2 hx hp2 hls hin
      go_wp2_with fail
      refine HP.out.mono ?_
      rintro e w4 ⟨rfl, ha, hm⟩
      have HE2 := hid (HE.out w4 ha hm)
      clear ha hm HE HP
      unfold IfE at *
      go_wp2_with fail
      go_ret
      exact HE2.out
    | false =>
      obtain ⟨rfl, hU⟩ := h2 rfl
      have HU := hid (up_any w3 S p _ hT.ag n (by omega) i hin hU (by omega))
      have HM3 := hid (HM.out.trans hT.mod)
      have HX := hid hx
      have HP2 := hid hp2
      unfold If at HU
      clear hT h1 h2 HD hx hp2 hls hin HM hU
      go_wp2_with fail
      refine HU.out.mono ?_
      rintro e w4 ⟨rfl, l3, hT3, hH3⟩
      have hl3 : l3.length = n + 1 := by rw [hT3.len, hl2]
      have hx3 : fn l3 n = fn l i := by rw [hT3.rest n (Nat.le_refl _)]; exact HX.out
      have HP := hid (pop_any w4 S p l3 hT3.ag n hl3)
      have HE := hid (fun w5 ha hm => pop_last (S := S) (p := p) (w := w) (w2 := w4) (w3 := w5) (x := fn l i) HN.out (hT3.perm.trans HP2.out) hH3 hx3 ha (HM3.out.trans hT3.mod) hm)
      rw [hx3] at HP
      clear hT3 hH3 hl3 hx3 HU HX HP2 HM3 hl2
      go_wp2_with fail
      refine HP.out.mono ?_
      rintro e w5 ⟨rfl, ha, hm⟩
      have HE2 := hid (HE.out w5 ha hm)
      clear ha hm HE HP
      unfold IfE at *
      go_wp2_with fail
      go_ret
      exact HE2.out
end Go.Proofs.Ytekobigoekfckaa

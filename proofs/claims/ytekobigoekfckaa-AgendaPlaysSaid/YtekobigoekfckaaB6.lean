/- Two entries change their places. -/
import Derived.Test.YtekobigoekfckaaB5
namespace Go.Proofs.Ytekobigoekfckaa
open Go.RowKit

theorem entC_set (l : List Ent) (i : Nat) (x : Ent) (hi : i < l.length) : entC (l.set i x) = ((entC l).set (i * 2) (.int .i64 x.1)).set (i * 2 + 1) (.int .i64 x.2) := by
  induction l generalizing i with
  | nil => simp at hi
  | cons y l ih =>
    have e : ∀ (z : Ent) (l : List Ent), entC (z :: l) = .int .i64 z.1 :: .int .i64 z.2 :: entC l := fun _ _ => rfl
    cases i with
    | zero => simp [e]
    | succ i =>
      rw [List.set_cons_succ, e, e, ih i (by simpa using hi), show (i + 1) * 2 = i * 2 + 1 + 1 by omega]
      simp only [List.set_cons_succ]
theorem entC_swl (l : List Ent) (rest : List Value) (i k : Nat) (hi : i < l.length) (hk : k < l.length) :
    ((((entC l ++ rest).set (i * 2) (.int .i64 (fn l k).1)).set (i * 2 + 1) (.int .i64 (fn l k).2)).set (k * 2) (.int .i64 (fn l i).1)).set (k * 2 + 1) (.int .i64 (fn l i).2) = entC (swl l i k) ++ rest := by
  have hlen := entC_length l
  unfold swl
  rw [entC_set _ k _ (by rw [List.length_set]; exact hk), entC_set l i _ hi]
  rw [List.set_append_left _ _ (by omega), List.set_append_left _ _ (by rw [List.length_set]; omega), List.set_append_left _ _ (by simp only [List.length_set]; omega), List.set_append_left _ _ (by simp only [List.length_set]; omega)]
def SwapW (w : World) (g i k : Nat) (x y : Ent) : World := (((w.setCell ⟨g, i * 2, none⟩ (.int .i64 y.1)).setCell ⟨g, i * 2 + 1, none⟩ (.int .i64 y.2)).setCell ⟨g, k * 2, none⟩ (.int .i64 x.1)).setCell ⟨g, k * 2 + 1, none⟩ (.int .i64 x.2)
theorem swapW_blk {w : World} {g : Nat} {l : List Ent} {rest : List Value} (h : Blk w g 36 (entC l ++ rest)) (i k : Nat) (hi : i < l.length) (hk : k < l.length) :
    Blk (SwapW w g i k (fn l i) (fn l k)) g 36 (entC (swl l i k) ++ rest) := by
  have := (((h.set (i * 2) (.int .i64 (fn l k).1)).set (i * 2 + 1) (.int .i64 (fn l k).2)).set (k * 2) (.int .i64 (fn l i).1)).set (k * 2 + 1) (.int .i64 (fn l i).2)
  rw [entC_swl l rest i k hi hk] at this
  exact this
theorem swapW_mod (w : World) (g i k : Nat) (x y : Ent) : Mod (fun j => j = g) w (SwapW w g i k x y).drew := by
  have h0 : ∀ (w : World) (o : Nat) (v : Value), Mod (fun j => j = g) w (w.setCell ⟨g, o, none⟩ v) := fun w o v => Mod.set (S := fun j => j = g) (Mod.refl _ _) (.inl rfl) _
  exact ((((h0 _ _ _).trans (h0 _ _ _)).trans (h0 _ _ _)).trans (h0 _ _ _)).drew
theorem fn_swl_i (l : List Ent) (i k : Nat) (hi : i < l.length) (hk : k < l.length) : fn (swl l i k) i = fn l k := by rw [fn_swl l i k hi hk, swp_i]
theorem fn_swl_k (l : List Ent) (i k : Nat) (hi : i < l.length) (hk : k < l.length) : fn (swl l i k) k = fn l i := by rw [fn_swl l i k hi hk, swp_j]
theorem fn_big {l : List Ent} (h : ∀ e ∈ l, In64 e.1 ∧ In64 e.2) {i : Nat} (hi : i < l.length) : In64 (fn l i).1 ∧ In64 (fn l i).2 := by rw [fn_at hi]; exact h _ (List.getElem_mem hi)
/-- what Swap does to the memory, in two steps -/
theorem swap_end {w : World} {S : Nat → Prop} {p : Nat} {l : List Ent} {m : Int → Option Nat} {b g cap : Nat} {rest : List Value} (h : AgAt w S p l m (.slice (some ⟨g, 0, none⟩) l.length cap) b) (hb : Blk w g 36 (entC l ++ rest))
    (h1 : l.length ≤ cap) (h2 : cap ≤ maxLen) (hcap : (entC l ++ rest).length = cap * 2) (hgp : g ≠ p) (hgb : g ≠ b) (hfew : l.length < maxLen) (i k : Nat) (hi : i < l.length) (hk : k < l.length) (w1 : World) (hw : (SwapW w g i k (fn l i) (fn l k)).drew = w1) :
    Blk w1 p 53 [.slice (some ⟨g, 0, none⟩) l.length cap, .map (some b)] ∧ Blk w1 g 36 (entC (swl l i k) ++ rest) ∧
    ∃ v1 s1 w2 v2 s2 w3, (Instr.mapEntry 49 (.map (some b)) (.int .i64 (fn l k).1)).run Try.prog w1.drew = .ok (.tuple #[v1, .int .i64 s1]) w1.drew ∧
      (Instr.entryStore 49 (.map (some b)) (.int .i64 s1) (.int .i64 (i : Int))).run Try.prog w1.drew = .ok () w2 ∧
      (Instr.mapEntry 49 (.map (some b)) (.int .i64 (fn l i).1)).run Try.prog w2 = .ok (.tuple #[v2, .int .i64 s2]) w2 ∧
      (Instr.entryStore 49 (.map (some b)) (.int .i64 s2) (.int .i64 (k : Int))).run Try.prog w2 = .ok () w3 ∧
      Hid (IsAg w3 S p (swl l i k)) ∧ Hid (Mod S w w3) := by
  have hlen : l.length < maxLen := by
    exact hfew
  have hm1 := swapW_mod w g i k (fn l i) (fn l k)
  rw [hw] at hm1
  have hb1 : Blk w1 g 36 (entC (swl l i k) ++ rest) := by rw [← hw]; exact (swapW_blk hb i k hi hk).drew
  have ho1 := hm1.blk h.obj (fun e => hgp e.symm)
  have ha1 := (h.map.keep hm1 (fun e => hgb e.symm)).drew
  have hbi := fn_big h.big hi
  have hbk := fn_big h.big hk
  have hm : Mod (fun k => k = b) w1 w1.drew := (Mod.refl _ _).drew
  obtain ⟨v1, s1, w2, r1, r2, a2, t2⟩ := ha1.entry hlen (fn l k).1 hbk.1 (by rw [h.pos.at' k hk]; rfl) i (by have := hlen; unfold In64; unfold maxLen at this; omega)
  obtain ⟨v2, s2, w3, r3, r4, a3, t3⟩ := a2.entry hlen (fn l i).1 hbi.1 (by unfold upd; split; rfl; rw [h.pos.at' i hi]; rfl) k (by have := hlen; unfold In64; unfold maxLen at this; omega)
  have hm3 : Mod (fun k => k = b) w1 w3 := (hm.trans (mapturned_mod t2)).trans (mapturned_mod t3)
  have hs := h.row.2 g rfl
  refine ⟨ho1, hb1, v1, s1, w2, v2, s2, w3, r1, r2, r3, r4, ⟨_, _, b, hm3.blk ho1 (fun e => (h.map.keep (T := None) (w' := w) (Mod.refl _ _) (fun h => h)).ne h.obj e), h.own, h.ownb, ?_, ?_, h.pos.swap hi hk, h.lp, h.lb, ?_, ?_⟩, ?_⟩
  · have hb3 := hm3.blk hb1 hgb
    rw [swl_len]
    refine ⟨⟨by rw [entC_length, swl_len], .inr ⟨g, cap, _, rfl, Nat.zero_le _, hb3, h1, h2, ?_, ?_⟩⟩, h.row.2⟩
    · have e : (entC (swl l i k)).length = (entC l).length := by rw [entC_length, entC_length, swl_len]
      rw [List.size_toArray, List.length_append, e, ← List.length_append]; exact hcap
    · have e : l.length * 2 = (entC (swl l i k)).length := by rw [entC_length, swl_len]
      rw [List.toList_toArray, e, List.take_left]
  · rw [swl_len]; exact a3
  · intro e he
    have := (swl_perm l i k hi hk).mem_iff.1 he
    exact h.big e this
  · intro j hj
    have := h.lt j hj
    have h1 := hm1.size
    have h3 := hm3.size
    omega
  · exact (hm1.mono (fun j _ e => by subst e; exact hs)).then hm3 (fun j _ e => by subst e; exact h.ownb)
def APost (S : Nat → Prop) (p : Nat) (l : List Ent) (w : World) (e : Ending) (w' : World) : Prop := e = .returned (.tuple #[]) ∧ IsAg w' S p l ∧ Mod S w w'
set_option maxRecDepth 100000 in
set_option maxHeartbeats 3200000 in
theorem swap_any (w : World) (S : Nat → Prop) (p : Nat) (l : List Ent) (h : IsAg w S p l) (hfew : l.length < maxLen) (i k : Nat) (hi : i < l.length) (hk : k < l.length) :
    Calls Try.prog 67 #[Ptr p, .int .i64 (i : Int), .int .i64 (k : Int)] w (APost S p (swl l i k) w) := by
  obtain ⟨m, lv, b, h⟩ := h
  have h0 := h.obj.is (i := 0) rfl
  have h00 := h.obj.is (i := 1) rfl
  obtain ⟨g, cap, rest, rfl, _, hb, h1, h2, hcap, hgp, hgb, hat⟩ := h.at (by omega)
  obtain ⟨c1, c2⟩ := hat i hi
  obtain ⟨c3, c4⟩ := hat k hk
  have f1 := hb.free (i * 2)
  have f2 := hb.free (i * 2 + 1)
  have f3 := hb.free (k * 2)
  have f4 := hb.free (k * 2 + 1)
  obtain ⟨u1, e1⟩ : ∃ u, (w.setCell ⟨g, i * 2, none⟩ (.int .i64 (fn l k).1)).cell? ⟨g, k * 2, none⟩ = some u := ⟨_, (hb.set _ _).cellAt _ (by have := entC_length l; rw [List.length_set, List.length_append]; omega)⟩
  obtain ⟨u2, e2⟩ : ∃ u, ((w.setCell ⟨g, i * 2, none⟩ (.int .i64 (fn l k).1)).setCell ⟨g, i * 2 + 1, none⟩ (.int .i64 (fn l k).2)).cell? ⟨g, k * 2 + 1, none⟩ = some u := ⟨_, ((hb.set _ _).set _ _).cellAt _ (by have := entC_length l; rw [List.length_set, List.length_set, List.length_append]; omega)⟩
  have HE := hid (fun w1 hw => swap_end h hb h1 h2 hcap hgp hgb hfew i k hi hk w1 hw)
  have HL := hid (entC_length (swl l i k))
  rw [swl_len] at HL
  have HI := hid (fn_swl_i l i k hi hk)
  have HK := hid (fn_swl_k l i k hi hk)
  have HAT := hid (entC_at (swl l i k) i (by rw [swl_len]; exact hi))
  have HAK := hid (entC_at (swl l i k) k (by rw [swl_len]; exact hk))
  rw [HI.out] at HAT
  rw [HK.out] at HAK
  clear hat h hb HI HK hcap hgp hgb
  unfold maxLen at h2
  generalize fn l i = x at *
  generalize fn l k = y at *
  generalize swl l i k = sl at *
  generalize hn : l.length = n at *
  have hi' : (i : Int) < (n : Int) := by omega
  have hk' : (k : Int) < (n : Int) := by omega
  unfold Ptr
  go_enter Try.func67, Try.ntmps67
  go_wp2
  go_region
  generalize hw1 : (World.setCell _ _ _).drew = w1
  obtain ⟨ho, hb, v1, s1, w2, v2, s2, w3, r1, r2, r3, r4, HA, HM⟩ := HE.out w1 hw1
  clear hw1 HE e1 e2 c1 c2 c3 c4 f1 f2 f3 f4 h0 h00
  have h0 := ho.is (i := 0) rfl
  have h00 := ho.is (i := 1) rfl
  have hlen := HL.out
  have c1 := hb.is (i := i * 2) (v := .int .i64 y.1) (by rw [List.getElem?_append_left (by omega)]; exact HAT.out.1)
  have c3 := hb.is (i := k * 2) (v := .int .i64 x.1) (by rw [List.getElem?_append_left (by omega)]; exact HAK.out.1)
  clear ho hb hlen HAT HAK
  go_wp2
  go_region
  go_wp2
  go_end0
  exact ⟨rfl, HA.out, HM.out⟩
end Go.Proofs.Ytekobigoekfckaa

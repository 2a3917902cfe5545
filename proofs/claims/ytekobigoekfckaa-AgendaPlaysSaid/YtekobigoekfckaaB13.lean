/- The agenda's Put, Drop, Take. -/
import Derived.Test.YtekobigoekfckaaB12
namespace Go.Proofs.Ytekobigoekfckaa
open Go.RowKit

def AgPost (p : Nat) (S : Nat → Prop) (s : List Ent) (r : Bool) (w : World) (e : Ending) (w' : World) : Prop := ∃ S', e = .returned (.bool r) ∧ AgS w' S' p s ∧ Turn S S' w w'
theorem due_end {w : World} {S : Nat → Prop} {p : Nat} {l : List Ent} {m : Int → Option Nat} {b g cap : Nat} {rest : List Value} (h : AgAt w S p l m (.slice (some ⟨g, 0, none⟩) l.length cap) b) (hb : Blk w g 36 (entC l ++ rest))
    (h1 : l.length ≤ cap) (h2 : cap ≤ maxLen) (hcap : (entC l ++ rest).length = cap * 2) (hgp : g ≠ p) (hgb : g ≠ b) (i : Nat) (hi : i < l.length) (d : Int) (hd : In64 d) :
    IsAg (w.setCell ⟨g, i * 2 + 1, none⟩ (.int .i64 d)) S p (l.set i ((fn l i).1, d)) ∧ Mod S w (w.setCell ⟨g, i * 2 + 1, none⟩ (.int .i64 d)) := by
  have hlen := entC_length l
  have hm : Mod (fun k => k = g) w (w.setCell ⟨g, i * 2 + 1, none⟩ (.int .i64 d)) := Mod.set (S := fun k => k = g) (Mod.refl _ _) (.inl rfl) _
  have hS := h.row.2 g rfl
  have e1 : (entC l ++ rest).set (i * 2 + 1) (.int .i64 d) = entC (l.set i ((fn l i).1, d)) ++ rest := by
    rw [entC_set l i _ hi, List.set_append_left _ _ (by omega)]
    congr 2
    obtain ⟨e, _⟩ := entC_at l i hi
    have hlt : i * 2 < (entC l).length := by omega
    rw [List.getElem?_eq_getElem hlt] at e
    have e' : (entC l)[i * 2] = .int .i64 (fn l i).1 := by simpa using e
    have := List.set_getElem_self hlt
    rw [e'] at this
    exact this.symm
  have hb1 : Blk (w.setCell ⟨g, i * 2 + 1, none⟩ (.int .i64 d)) g 36 (entC (l.set i ((fn l i).1, d)) ++ rest) := by rw [← e1]; exact hb.set _ _
  have hsl : (l.set i ((fn l i).1, d)).length = l.length := by simp
  refine ⟨⟨m, .slice (some ⟨g, 0, none⟩) l.length cap, b, hm.blk h.obj (fun e => hgp e.symm), h.own, h.ownb, ?_, ?_, h.pos.due hi d, h.lp, h.lb, ?_, ?_⟩, hm.mono (fun k _ e => by subst e; exact hS)⟩
  · rw [hsl]
    refine ⟨⟨by rw [entC_length, hsl], .inr ⟨g, cap, _, rfl, Nat.zero_le _, hb1, h1, h2, ?_, ?_⟩⟩, h.row.2⟩
    · rw [List.size_toArray, ← e1, List.length_set]; exact hcap
    · have e : l.length * 2 = (entC (l.set i ((fn l i).1, d))).length := by rw [entC_length, hsl]
      rw [List.toList_toArray, e, List.take_left]
  · rw [hsl]; exact h.map.keep hm (fun e => hgb e.symm)
  · intro e he
    rcases List.mem_or_eq_of_mem_set he with he | he
    · exact h.big e he
    · subst he; exact ⟨(fn_big h.big hi).1, hd⟩
  · intro k hk
    rw [World.size_setCell]; exact h.lt k hk
theorem AgS.put_there {w : World} {S : Nat → Prop} {p : Nat} {s l l' : List Ent} {m : Int → Option Nat} (hpos : Pos l m) {i : Nat} (hi : i < l.length) {id d : Int} (hid' : (fn l i).1 = id) (hp : l.Perm s) (hs : s.Pairwise le)
    (ha : IsAg w S p l') (hp' : l'.Perm (l.set i (id, d))) (hH : Heap (fn l') l'.length) : AgS w S p (putL s (id, d)) := by
  subst hid'
  exact ⟨l', ha, hH, (hp'.trans (set_drop hpos hi d)).trans (putL_perm hp _).symm, putL_sorted _ _ hs⟩
theorem AgS.put_new {w : World} {S : Nat → Prop} {p : Nat} {s l l' : List Ent} {x : Ent} (hx : ∀ y ∈ l, y.1 ≠ x.1) (hp : l.Perm s) (hs : s.Pairwise le)
    (ha : IsAg w S p l') (hp' : l'.Perm (l ++ [x])) (hH : Heap (fn l') l'.length) : AgS w S p (putL s x) := by
  refine ⟨l', ha, hH, hp'.trans ?_, putL_sorted _ _ hs⟩
  have := (putL_perm hp x).symm
  rw [dropL_none hx] at this
  exact (List.perm_append_singleton _ _).trans this
set_option maxHeartbeats 3200000 in
theorem put_any (w : World) (S : Nat → Prop) (p : Nat) (s : List Ent) (h : AgS w S p s) (id d : Int) (hi64 : In64 id) (hd64 : In64 d) (hfew : s.length < 1000000000000) :
    Calls Try.prog 10 #[Ptr p, .int .i64 id, .int .i64 d] w (AgPost p S (putL s (id, d)) (!there s id) w) := by
  obtain ⟨l, ⟨m, lv, b, h⟩, hH, hp, hs⟩ := h
  have hl := hp.length_eq
  rw [← hl] at hfew
  have h00 := h.obj.is (i := 1) rfl
  have h0 := h.obj.is (i := 0) rfl
  obtain ⟨c, hlook, hc⟩ := h.map.look id hi64
  rw [h.pos.there id] at hlook
  rw [← there_perm hp id]
  cases ht : there l id with
  | true =>
    rw [ht] at hlook
    have hm := h.pos.there id
    rw [ht] at hm
    obtain ⟨i, hmi⟩ := Option.isSome_iff_exists.1 hm
    obtain ⟨hil, hid'⟩ := h.pos.back _ _ hmi
    obtain rfl := hc i hmi
    obtain ⟨g, cap, rest, rfl, _, hb, h1, h2, hcap, hgp, hgb, hat⟩ := h.at (by omega)
    obtain ⟨c1, c2⟩ := hat i hil
    have hf := hb.free (i * 2 + 1)
    obtain ⟨ha, hmod⟩ := due_end h hb h1 h2 hcap hgp hgb i hil d hd64
    rw [hid'] at ha
    have hfix : FixOk (fn (l.set i (id, d))) (l.set i (id, d)).length i := by
      rw [List.length_set]
      exact hH.fixN (fun k hk hki => by rw [fn_set _ _ _ _ hil, if_neg hki])
    have HF := hid (fix_any _ S p _ ha i (by rw [List.length_set]; exact hil) hfix (by rw [List.length_set]; omega))
    have HE := hid (fun w3 l' ha hp' hH (hm3 : Mod S _ w3) => show AgPost p S (putL s (id, d)) (!true) w (.returned (.bool false)) w3 from ⟨S, rfl, AgS.put_there (w := w3) (S := S) (p := p) (l' := l') h.pos hil hid' hp hs ha hp' hH, Turn.same (hmod.trans hm3)⟩)
    have hil' : (i : Int) < (l.length : Int) := by omega
    unfold maxLen at h2
    clear h hH hp hs hb hat hcap hgp hgb ha hmod hfix hm hmi hid' hc
    unfold Ptr If at *
    unfold Ptr at *
    go_enter Try.func10, Try.ntmps10
    go_wp2_with fail
    refine HF.out.mono ?_
    rintro e w3 ⟨rfl, l', ha, hp', hH, hm3⟩
    have HE2 := hid (HE.out w3 l' ha hp' hH hm3)
    clear ha hp' hH hm3 HE HF
    go_wp2_with fail
    go_ret
    exact HE2.out
  | false =>
    rw [ht] at hlook
    have hx := there_false ht
    have HP := hid (hpush_any w S p l ⟨m, lv, b, h⟩ (id, d) hx ⟨hi64, hd64⟩ hH hfew)
    have HE := hid (fun w3 S' l' ha hp' hH (hm3 : Turn S S' w w3) => show AgPost p S (putL s (id, d)) (!false) w (.returned (.bool true)) w3 from ⟨S', rfl, AgS.put_new (w := w3) (S := S') (p := p) (l' := l') hx hp hs ha hp' hH, hm3⟩)
    clear h hH hp hs hc hx hl
    unfold Ptr If IfE at *
    unfold Ptr V at *
    go_enter Try.func10, Try.ntmps10
    go_wp2_with fail
    refine HP.out.mono ?_
    rintro e w3 ⟨rfl, S', l', ha, hp', hH, hm3⟩
    have HE2 := hid (HE.out w3 S' l' ha hp' hH hm3)
    clear ha hp' hH hm3 HE HP
    go_wp2_with fail
    go_ret
    exact HE2.out
set_option maxHeartbeats 3200000 in
theorem drop_any (w : World) (S : Nat → Prop) (p : Nat) (s : List Ent) (h : AgS w S p s) (id : Int) (hi64 : In64 id) (hfew : s.length < 1000000000000) :
    Calls Try.prog 14 #[Ptr p, .int .i64 id] w (AgPost p S (dropL s id) (there s id) w) := by
  obtain ⟨l, ⟨m, lv, b, h⟩, hH, hp, hs⟩ := h
  have hl := hp.length_eq
  rw [← hl] at hfew
  have h00 := h.obj.is (i := 1) rfl
  have h0 := h.obj.is (i := 0) rfl
  obtain ⟨c, hlook, hc⟩ := h.map.look id hi64
  rw [h.pos.there id] at hlook
  rw [← there_perm hp id]
  cases ht : there l id with
  | true =>
    rw [ht] at hlook
    have hm := h.pos.there id
    rw [ht] at hm
    obtain ⟨i, hmi⟩ := Option.isSome_iff_exists.1 hm
    obtain ⟨hil, hid'⟩ := h.pos.back _ _ hmi
    obtain rfl := hc i hmi
    have HR := hid (remove_any w S p l ⟨m, lv, b, h⟩ (l.length - 1) (by omega) i hil hH hfew)
    have HE := hid (fun w3 l' ha (hp' : (fn l i :: l').Perm l) hH (hm3 : Mod S _ w3) => show AgPost p S (dropL s id) true w (.returned (.bool true)) w3 from ⟨S, rfl, ⟨l', ha, hH, by rw [← hid']; exact (drop_of_erase h.pos hil hp').trans (dropL_perm hp _), dropL_sorted _ _ hs⟩, Turn.same hm3⟩)
    clear h hH hp hs hm hmi hid' hc
    unfold Ptr If at *
    unfold Ptr at *
    go_enter Try.func14, Try.ntmps14
    go_wp2_with fail
    refine HR.out.mono ?_
    rintro e w3 ⟨rfl, l', ha, hp', hH, hm3⟩
    have HE2 := hid (HE.out w3 l' ha hp' hH hm3)
    clear ha hp' hH hm3 HE HR
    go_wp2_with fail
    go_ret
    exact HE2.out
  | false =>
    rw [ht] at hlook
    have HE := hid (show AgPost p S (dropL s id) false w (.returned (.bool false)) w from ⟨S, rfl, ⟨l, ⟨m, lv, b, h⟩, hH, by rw [dropL_none (there_false (by rw [← there_perm hp id]; exact ht))]; exact hp, dropL_sorted _ _ hs⟩, Turn.same (Mod.refl _ _)⟩)
    clear h hH hp hs hc hl
    unfold Ptr at *
    go_enter Try.func14, Try.ntmps14
    go_wp2_with fail
    go_ret
    exact HE.out
end Go.Proofs.Ytekobigoekfckaa

/- The document's Before and Drop. -/
import Derived.Test.YtekobigoekfckaaB8
import Derived.Test.YtekobigoekfckaaA5
namespace Go.Proofs.Ytekobigoekfckaa
open Go.RowKit

theorem v_und22 : Try.prog.underlying 22 = some (.slice 29) := by kernel_rfl
theorem v_info29 : (Try.prog.info? 29).map (fun i => (i.zero, i.size, i.bytes)) = some (some (.agg #[.int .i64 0, .int .i64 0]), 2, 16) := by kernel_rfl
set_option maxHeartbeats 800000 in
theorem refbefore_any (w : World) (x y : Ent) : Calls Try.prog 16 #[V x, V y] w (BPost x y w) := by
  obtain ⟨a, b⟩ := x
  obtain ⟨c, d⟩ := y
  have hm : ∀ (o1 o2 : Obj), Mod None w ((w.alloc o1).alloc o2) := fun o1 o2 => ((Mod.refl None w).alloc o1).alloc o2
  have HM := hid hm
  clear hm
  by_cases h2 : b = d
  · subst h2
    by_cases h3 : a < c
    · have HB := hid (show before (a, b) (c, b) = true by rw [before_iff]; exact .inr ⟨rfl, h3⟩)
      go_enter Try.func16, Try.ntmps16
      go_wp2
      go_ret
      exact ⟨rbool HB.out.symm, HM.out _ _⟩
    · have HB := hid (show before (a, b) (c, b) = false by rw [Bool.eq_false_iff, ne_eq, before_iff]; simp; omega)
      go_enter Try.func16, Try.ntmps16
      go_wp2
      go_ret
      exact ⟨rbool HB.out.symm, HM.out _ _⟩
  · have hne : (b != d) = true := by simpa using h2
    by_cases h1 : b < d
    · have HB := hid (show before (a, b) (c, d) = true by rw [before_iff]; exact .inl h1)
      go_enter Try.func16, Try.ntmps16
      go_wp2
      go_ret
      exact ⟨rbool HB.out.symm, HM.out _ _⟩
    · have HB := hid (show before (a, b) (c, d) = false by rw [Bool.eq_false_iff, ne_eq, before_iff]; simp; omega)
      go_enter Try.func16, Try.ntmps16
      go_wp2
      go_ret
      exact ⟨rbool HB.out.symm, HM.out _ _⟩
/-- a row of the document's entries that the call makes -/
structure RefRel (s : List Ent) (w wr : World) (v : Value) : Prop where
  own : wr.ownsRow 0 29 2 v s.length (entC s)
  mod : Mod None w wr
  new : ∀ g, v.ownBlock = some g → w.heap.size ≤ g
theorem RefRel.start (w : World) : RefRel [] w w (.slice none 0 0) := ⟨World.ownsRow_nil _ _ _ _, Mod.refl _ _, fun g hg => by cases hg⟩
theorem RefRel.same {s : List Ent} {w wr wr' : World} {v : Value} (h : RefRel s w wr v) (hm : Mod None wr wr') : RefRel s w wr' v :=
  ⟨((show OwnR wr (fun _ => True) 29 2 v s.length (entC s) from ⟨h.own, fun _ _ => trivial⟩).kept (S' := fun _ => True) hm (fun _ _ h => h) (fun _ h => h)).1, h.mod.trans hm, h.new⟩
theorem RefRel.rdv {s : List Ent} {w wr : World} {a : Option Addr} {n c : Nat} (h : RefRel s w wr (.slice a n c)) : RdV wr a (entC s) ∧ n = s.length := by
  have hn : n = s.length := by
    rcases h.own.2 with ⟨e, h0⟩ | ⟨g, cap, cur, e, _⟩
    · cases e; exact h0.symm
    · cases e; rfl
  exact ⟨(show OwnR wr (fun _ => True) 29 2 _ s.length (entC s) from ⟨h.own, fun _ _ => trivial⟩).rdv (by rw [hn]), hn⟩
def RefPost (s : List Ent) (w : World) (e : Ending) (w' : World) : Prop := ∃ a c, e = .returned (.slice a s.length c) ∧ RefRel s w w' (.slice a s.length c)
theorem wp_put_e {w wr : World} {o : Oper} {a : Act} {K : Act → World → Prop} {Q : Exit → Act → World → Prop} (sl x : Operand)
    (ho : o.op = .call { callee := .builtin .append, args := #[sl, x], argTypes := #[22, 22] })
    {s : List Ent} {ka : Option Addr} {kn kc : Nat} {e : Ent} {q : Option Addr} {c : Nat} (hr : RefRel s w wr (.slice ka kn kc))
    (hs : a.eval sl = .slice ka kn kc) (hx : a.eval x = .slice q 1 c) (hq : RdV wr q [.int .i64 e.1, .int .i64 e.2]) (hb : s.length ≤ 1000000) (km : Nat) (hkm : kn + 1 = km)
    (h : ∀ va vc w', Hid (RefRel (s ++ [e]) w w' (.slice va km vc)) → K (a.put o.dst (.slice va km vc)) w') : o.wp Try.prog a wr K Q := by
  obtain ⟨i, hi, hz, hsz, hby⟩ := info_parts v_info29
  have hkn := hr.rdv.2
  subst hkn
  subst hkm
  refine wp_append_R sl x 22 ho 29 i _ 2 16 v_und22 hi hz hsz hby rfl (by decide) _ s.length (entC s) hs hr.own q 1 c [.int .i64 e.1, .int .i64 e.2] hx rfl hq (e_ones e) (by unfold maxLen; omega) (by omega) (fun va vc w' h2 h3 h4 => ?_)
  refine h va vc w' ?_
  have g2 := h2.out
  have g3 := h3.out
  have g4 := h4.out
  refine ⟨?_, hr.mod.then g3 (fun i hi e => absurd (hr.new i e) (by omega)), fun g hg => ?_⟩
  · rw [List.length_append, entC_snoc]; exact g2
  · rcases g4 g hg with e | e
    · exact hr.new g e
    · have := hr.mod.size; omega
theorem lit_rdv (w : World) (l : List Value) (C : Array Value) (hC : C = l.toArray) (q : Nat) (hq : q = w.heap.size) (t : TypeId) : RdV (w.alloc (.cells C t)) (some ⟨q, 0, none⟩) l := by
  subst hC hq
  exact (Blk.new w t l.toArray).rdv 0 (fun i _ => by rw [Nat.zero_add])
/-- an entry that is read -/
theorem rd_ent {w : World} {a : Option Addr} {l : List Ent} (h : RdV w a (entC l)) {k : Nat} (hk : k < l.length) :
    ∃ b o, a = some ⟨b, o, none⟩ ∧ w.cell? ⟨b, o + k * 2, none⟩ = some (.int .i64 (fn l k).1) ∧ w.cell? ⟨b, o + k * 2 + 1, none⟩ = some (.int .i64 (fn l k).2) := by
  have hlen := entC_length l
  rcases h with h | ⟨b, o, rfl, hc⟩
  · rw [h] at hlen; simp at hlen; omega
  · obtain ⟨e1, e2⟩ := entC_at l k hk
    have h1 := hc (k * 2) (by omega)
    have h2 := hc (k * 2 + 1) (by omega)
    rw [e1] at h1
    rw [e2] at h2
    exact ⟨b, o, rfl, h1, h2⟩
theorem fn_take_succ (l : List Ent) (k : Nat) (h : k < l.length) : l.take (k + 1) = l.take k ++ [fn l k] := by
  rw [List.take_add_one, fn_at h, List.getElem?_eq_getElem h]; rfl
theorem dropL_snoc (l : List Ent) (x : Ent) (id : Int) : dropL (l ++ [x]) id = if x.1 = id then dropL l id else dropL l id ++ [x] := by
  unfold dropL
  rw [List.filter_append]
  by_cases h : x.1 = id
  · rw [if_pos h]; simp [h]
  · rw [if_neg h, List.filter_cons_of_pos (by simpa using h)]; rfl
theorem dropL_le (l : List Ent) (id : Int) : (dropL l id).length ≤ l.length := List.length_filter_le _ _
set_option maxRecDepth 100000 in
set_option maxHeartbeats 3200000 in
theorem refdrop_any (w : World) (a : Option Addr) (c n : Nat) (l : List Ent) (hn : n = l.length) (hr : RdV w a (entC l)) (id : Int) (hfew : l.length ≤ 100000) :
    Calls Try.prog 13 #[.slice a n c, .int .i64 id] w (RefPost (dropL l id) w) := by
  subst hn
  have HR := hid hr
  clear hr
  go_enter Try.func13, Try.ntmps13
  go_wp2_with fail
  go_loopw [5, 6] (fun o i wr => ∃ (k : Nat) (oa : Option Addr) (on oc : Nat), k ≤ l.length ∧ i = .int .i64 k ∧ o = .slice oa on oc ∧ Hid (RefRel (dropL (l.take k) id) w wr (.slice oa on oc))) (fun _ i _ => l.length - (intOf i).toNat)
  case atStart => exact ⟨0, none, 0, 0, by omega, rfl, rfl, RefRel.start w⟩
  case round =>
    obtain ⟨k, oa, on, oc, hk, rfl, rfl, hrel⟩ := hrel
    by_cases hlt : k < l.length
    · have hlt' : (k : Int) < (l.length : Int) := by omega
      have hrd := hrel.out.mod.rdv HR.out (fun _ _ h => h)
      obtain ⟨b, o, rfl, c1, c2⟩ := rd_ent hrd hlt
      have HS := hid (dropL_snoc (l.take k) (fn l k) id)
      rw [← fn_take_succ l k hlt] at HS
      clear hrd
      generalize fn l k = x at *
      have HLE := hid (show (dropL (l.take k) id).length ≤ 1000000 by have := dropL_le (l.take k) id; rw [List.length_take] at this; omega)
      by_cases hx : x.1 = id
      · have hne : (x.1 != id) = false := by simp [hx]
        have HS2 := HS.out
        rw [if_pos hx] at HS2
        clear hx
        go_wp2_with fail
        go_roundw
        case rel => exact ⟨k + 1, oa, on, oc, by omega, by go_num, rfl, by show RefRel _ _ _ _; rw [HS2]; exact hrel.out⟩
        case measure => simp [intOf]; omega
      · have hne : (x.1 != id) = true := by simpa using hx
        have HS2 := HS.out
        rw [if_neg hx] at HS2
        clear hx
        go_wp2_with (at_builtin; first | (refine wpList_plain rfl (fun K hK => wp_put_e (.tmp 20) (.tmp 25) rfl (e := x) (hrel.out.same ((Mod.refl None wr).alloc _)) rfl rfl (lit_rdv wr _ _ rfl _ rfl _) HLE.out (on + 1) rfl (fun va vc w' h2 => hK _ _ ?_)); have HR3 := hid h2.out; clear h2))
        go_roundw
        case rel => exact ⟨k + 1, _, _, _, by omega, by go_num, rfl, by show RefRel _ _ _ _; rw [HS2]; exact HR3.out⟩
        case measure => simp [intOf]; omega
    · obtain rfl : k = l.length := by omega
      rw [List.take_length] at hrel
      have hn := hrel.out.rdv.2
      subst hn
      have HE := hid (show RefPost (dropL l id) w (.returned (.slice oa (dropL l id).length oc)) wr from ⟨oa, oc, rfl, hrel.out⟩)
      clear hrel
      go_wp2_with fail
      go_ret
      exact HE.out
end Go.Proofs.Ytekobigoekfckaa

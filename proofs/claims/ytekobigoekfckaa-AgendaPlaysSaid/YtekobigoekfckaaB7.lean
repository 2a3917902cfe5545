/- An entry is put behind the others; the last one is taken away. -/
import Derived.BigRegion
import Derived.Test.YtekobigoekfckaaB6
namespace Go.Proofs.Ytekobigoekfckaa
open Go.RowKit

/-- an interface value that holds an entry -/
def IfE (e : Ent) : Value := .iface 36 (V e)
theorem fn_mem {l : List Ent} {i : Nat} (hi : i < l.length) : fn l i ∈ l := by rw [fn_at hi]; exact List.getElem_mem hi
theorem entC_take (l : List Ent) (n : Nat) (rest : List Value) (hn : n ≤ l.length) : (entC l ++ rest).take (n * 2) = entC (l.take n) := by
  have h : entC l = entC (l.take n) ++ entC (l.drop n) := by
    conv => lhs; rw [← List.take_append_drop n l]
    unfold entC; rw [List.flatMap_append]
  have hl : (entC (l.take n)).length = n * 2 := by rw [entC_length, List.length_take]; omega
  rw [h, List.append_assoc, ← hl, List.take_left]
theorem pop_end {w : World} {S : Nat → Prop} {p : Nat} {l : List Ent} {m : Int → Option Nat} {b g cap n : Nat} {rest : List Value} (h : AgAt w S p l m (.slice (some ⟨g, 0, none⟩) l.length cap) b) (hb : Blk w g 36 (entC l ++ rest))
    (h1 : l.length ≤ cap) (h2 : cap ≤ maxLen) (hcap : (entC l ++ rest).length = cap * 2) (hgp : g ≠ p) (hgb : g ≠ b) (hn : l.length = n + 1) (w2 : World)
    (hw : ((w.setCell ⟨p, 0, none⟩ (.slice (some ⟨g, 0, none⟩) n cap)).alloc (.cells #[.int .i64 (fn l n).1, .int .i64 (fn l n).2] 36)).drew.drew = w2) :
    Blk w2 p 53 [.slice (some ⟨g, 0, none⟩) n cap, .map (some b)] ∧ Blk w2 w.heap.size 36 [.int .i64 (fn l n).1, .int .i64 (fn l n).2] ∧
    ∃ w3, (Builtin.delete_ #[49, 3] 0 #[.map (some b), .int .i64 (fn l n).1]).run Try.prog w2.drew = .ok (.tuple #[]) w3 ∧ Hid (IsAg w3 S p (l.take n)) ∧ Hid (Mod S w w3) ∧ Blk w3 w.heap.size 36 [.int .i64 (fn l n).1, .int .i64 (fn l n).2] := by
  have hm2 : Mod (fun k => k = p) w w2 := by
    rw [← hw]
    exact ((((Mod.set (S := fun k => k = p) (Mod.refl _ _) (.inl rfl) _).alloc _).drew).drew)
  have ho : Blk w2 p 53 [.slice (some ⟨g, 0, none⟩) n cap, .map (some b)] := by
    rw [← hw]
    exact (((h.obj.set 0 _).alloc _).drew).drew
  have hx : Blk w2 w.heap.size 36 [.int .i64 (fn l n).1, .int .i64 (fn l n).2] := by
    rw [← hw]
    have := Blk.new (w.setCell ⟨p, 0, none⟩ (.slice (some ⟨g, 0, none⟩) n cap)) 36 #[.int .i64 (fn l n).1, .int .i64 (fn l n).2]
    rw [World.size_setCell] at this
    exact this
  have hb2 := hm2.blk hb hgp
  have hpb := h.map.ne h.obj
  have ha2 := (h.map.keep hm2 (fun e => hpb e.symm)).drew
  have hbn := fn_big h.big (i := n) (by omega)
  obtain ⟨w3, hrun, ha3, ht3⟩ := ha2.del (fn l n).1 hbn.1 0
  rw [h.pos.at' n (by omega), if_pos (by rfl), hn] at ha3
  have hm3 : Mod (fun k => k = b) w2 w3 := ((Mod.refl _ w2).drew).trans (mapturned_mod ht3)
  have hlt : (l.take n).length = n := by rw [List.length_take]; omega
  have hs : S g := h.row.2 g rfl
  refine ⟨ho, hx, w3, hrun, ⟨_, _, b, hm3.blk ho hpb, h.own, h.ownb, ?_, ?_, h.pos.pop hn, fun e => h.lp e, fun e => h.lb e, ?_, ?_⟩, ?_, hm3.blk hx (fun e => by have := h.map.lt; omega)⟩
  · rw [hlt]
    have hb3 := hm3.blk hb2 hgb
    refine ⟨⟨by rw [entC_length, hlt], .inr ⟨g, cap, _, rfl, Nat.zero_le _, hb3, by omega, h2, by rw [List.size_toArray]; exact hcap, ?_⟩⟩, h.row.2⟩
    rw [List.toList_toArray, entC_take l n rest (by omega)]
  · rw [hlt]; exact ha3
  · intro e he
    exact h.big e (List.mem_of_mem_take he)
  · intro j hj
    have := h.lt j hj
    have h1 := hm2.size
    have h3 := hm3.size
    omega
  · exact (hm2.mono (fun j _ e => by subst e; exact h.own)).then hm3 (fun j _ e => by subst e; exact h.ownb)
def PopPost (S : Nat → Prop) (p : Nat) (l : List Ent) (x : Ent) (w : World) (e : Ending) (w' : World) : Prop := e = .returned (IfE x) ∧ IsAg w' S p l ∧ Mod S w w'
set_option maxRecDepth 100000 in
set_option maxHeartbeats 3200000 in
theorem pop_any (w : World) (S : Nat → Prop) (p : Nat) (l : List Ent) (h : IsAg w S p l) (n : Nat) (hn' : l.length = n + 1) :
    Calls Try.prog 65 #[Ptr p] w (PopPost S p (l.take n) (fn l n) w) := by
  obtain ⟨m, lv, b, h⟩ := h
  have h0 := h.obj.is (i := 0) rfl
  have h00 := h.obj.is (i := 1) rfl
  obtain ⟨g, cap, rest, rfl, _, hb, h1, h2, hcap, hgp, hgb, hat⟩ := h.at (by omega)
  obtain ⟨c1, c2⟩ := hat n (by omega)
  have f0 := h.obj.free 0
  have hpl := h.obj.lt
  have hgl := hb.lt
  have HE := hid (fun w2 hw => pop_end h hb h1 h2 hcap hgp hgb hn' w2 hw)
  unfold maxLen at h2
  clear hat h hb hcap hgp hgb
  generalize fn l n = x at *
  rw [hn'] at h1 h0
  have hlt : (n : Int) < ((n + 1 : Nat) : Int) := by omega
  have he1 : (((n + 1 : Nat) : Int) - 1) = (n : Int) := by omega
  unfold Ptr
  go_enter Try.func65, Try.ntmps65
  go_wp2
  go_region
  go_wp2
  go_region
  generalize hw2 : (World.alloc _ _).drew.drew = w2
  obtain ⟨ho, hx, w3, hrun, HA, HM, hx3⟩ := HE.out w2 hw2
  have hz := hx.lt
  clear hw2 HE h0 h00 c1 c2 f0 hpl hgl
  generalize w.heap.size = q at *
  have c1 := ho.is (i := 1) rfl
  have c2 := hx.is (i := 0) rfl
  have c3 := hx3.is (i := 0) rfl
  have c4 := hx3.is (i := 1) rfl
  clear ho hx hx3
  go_wp2
  go_region
  go_wp2
  go_ret
  exact ⟨rfl, HA.out, HM.out⟩
end Go.Proofs.Ytekobigoekfckaa

/- An agenda in memory. -/
import Derived.BigRegion
import Derived.Test.YtekobigoekfckaaB4
namespace Go.Proofs.Ytekobigoekfckaa
open Go.RowKit

/-- the agenda at p: its entries are l, as they stand; S is what it owns -/
structure AgAt (w : World) (S : Nat → Prop) (p : Nat) (l : List Ent) (m : Int → Option Nat) (lv : Value) (b : Nat) : Prop where
  obj : Blk w p 53 [lv, .map (some b)]
  own : S p
  ownb : S b
  row : OwnR w S 36 2 lv l.length (entC l)
  map : IsAt w b l.length m
  pos : Pos l m
  lp : lv.ownBlock ≠ some p
  lb : lv.ownBlock ≠ some b
  big : ∀ e ∈ l, In64 e.1 ∧ In64 e.2
  lt : ∀ k, S k → k < w.heap.size
def IsAg (w : World) (S : Nat → Prop) (p : Nat) (l : List Ent) : Prop := ∃ m lv b, AgAt w S p l m lv b
def Ptr (p : Nat) : Value := .pointer (some ⟨p, 0, none⟩)
theorem entC_length (l : List Ent) : (entC l).length = l.length * 2 := by
  induction l with
  | nil => rfl
  | cons x l ih =>
    have e : entC (x :: l) = .int .i64 x.1 :: .int .i64 x.2 :: entC l := rfl
    rw [e, List.length_cons, List.length_cons, ih, List.length_cons]; omega
theorem entC_at (l : List Ent) (i : Nat) (h : i < l.length) : (entC l)[i * 2]? = some (.int .i64 (fn l i).1) ∧ (entC l)[i * 2 + 1]? = some (.int .i64 (fn l i).2) := by
  induction l generalizing i with
  | nil => simp at h
  | cons x l ih =>
    have e : entC (x :: l) = .int .i64 x.1 :: .int .i64 x.2 :: entC l := rfl
    cases i with
    | zero => rw [e]; simp [fn]
    | succ i =>
      have := ih i (by simpa using h)
      rw [e, show (i + 1) * 2 = i * 2 + 1 + 1 by omega]
      simp only [List.getElem?_cons_succ]
      simpa [fn] using this
theorem AgAt.shape {w : World} {S : Nat → Prop} {p : Nat} {l : List Ent} {m : Int → Option Nat} {lv : Value} {b : Nat} (h : AgAt w S p l m lv b) :
    ∃ a c, lv = .slice a l.length c ∧ l.length ≤ c ∧ c ≤ maxLen := h.row.shape
/-- where an entry lies -/
theorem AgAt.at {w : World} {S : Nat → Prop} {p : Nat} {l : List Ent} {m : Int → Option Nat} {lv : Value} {b : Nat} (h : AgAt w S p l m lv b) (hn : 0 < l.length) :
    ∃ g cap rest, lv = .slice (some ⟨g, 0, none⟩) l.length cap ∧ S g ∧ Blk w g 36 (entC l ++ rest) ∧ l.length ≤ cap ∧ cap ≤ maxLen ∧ (entC l ++ rest).length = cap * 2 ∧ g ≠ p ∧ g ≠ b ∧
      ∀ i, i < l.length → w.cell? ⟨g, i * 2, none⟩ = some (.int .i64 (fn l i).1) ∧ w.cell? ⟨g, i * 2 + 1, none⟩ = some (.int .i64 (fn l i).2) := by
  obtain ⟨g, cap, rest, rfl, hS, hb, h1, h2, h3, h4⟩ := h.row.open1 hn
  refine ⟨g, cap, rest, rfl, hS, hb, h1, h2, h3, fun e => h.lp (by rw [e]; rfl), fun e => h.lb (by rw [e]; rfl), fun i hi => ?_⟩
  obtain ⟨e1, e2⟩ := entC_at l i hi
  have hlen := entC_length l
  rw [hb.cell, hb.cell, List.getElem?_append_left (by omega), List.getElem?_append_left (by omega)]
  exact ⟨e1, e2⟩
theorem AgAt.keep {w w' : World} {S T : Nat → Prop} {p : Nat} {l : List Ent} {m : Int → Option Nat} {lv : Value} {b : Nat} (h : AgAt w S p l m lv b) (hm : Mod T w w') (hT : ∀ k, S k → ¬ T k) : AgAt w' S p l m lv b :=
  ⟨hm.blk h.obj (hT _ h.own), h.own, h.ownb, h.row.kept hm (fun g hg => hT g (h.row.2 g hg)) (fun _ h => h), h.map.keep hm (hT _ h.ownb), h.pos, h.lp, h.lb, h.big, fun k hk => Nat.lt_of_lt_of_le (h.lt k hk) hm.size⟩
theorem AgAt.same {w w' : World} {S : Nat → Prop} {p : Nat} {l : List Ent} {m : Int → Option Nat} {lv : Value} {b : Nat} (h : AgAt w S p l m lv b) (hm : Mod None w w') : AgAt w' S p l m lv b := h.keep hm (fun _ _ h => h)

def LenPost (l : List Ent) (w : World) (e : Ending) (w' : World) : Prop := e = .returned (.int .i64 (l.length : Int)) ∧ w = w'
theorem len_any (w : World) (S : Nat → Prop) (p : Nat) (l : List Ent) (h : IsAg w S p l) : Calls Try.prog 27 #[Ptr p] w (LenPost l w) := by
  obtain ⟨m, lv, b, h⟩ := h
  have h0 := h.obj.is (i := 0) rfl
  obtain ⟨a, c, rfl, _, _⟩ := h.shape
  clear h
  unfold Ptr
  go_enter Try.func27, Try.ntmps27
  go_wp2
  go_ret
  exact ⟨rfl, rfl⟩
set_option maxHeartbeats 1600000 in
theorem less_any (w : World) (S : Nat → Prop) (p : Nat) (l : List Ent) (h : IsAg w S p l) (i k : Nat) (hi : i < l.length) (hk : k < l.length) :
    Calls Try.prog 64 #[Ptr p, .int .i64 (i : Int), .int .i64 (k : Int)] w (BPost (fn l i) (fn l k) w) := by
  obtain ⟨m, lv, b, h⟩ := h
  have h0 := h.obj.is (i := 0) rfl
  obtain ⟨g, cap, rest, rfl, _, _, h1, h2, _, _, _, hat⟩ := h.at (by omega)
  obtain ⟨c1, c2⟩ := hat i hi
  obtain ⟨c3, c4⟩ := hat k hk
  clear hat h
  unfold maxLen at h2
  generalize fn l i = x at *
  generalize fn l k = y at *
  generalize l.length = n at *
  have hi' : (i : Int) < (n : Int) := by omega
  have hk' : (k : Int) < (n : Int) := by omega
  unfold Ptr
  go_enter Try.func64, Try.ntmps64
  go_wp2
  refine wp_region_still_tail 14 (by kernel_rfl) (by kernel_rfl) ?_
  change wpStill _ _ (World.drew _) (fun a' => wpList _ _ _ _ a' (World.drew _)) _ _
  simp only [List.take_succ_cons, List.take_zero, List.drop_succ_cons, List.drop_zero]
  repeat still_step
  refine wpStill_nil ?_
  go_wp2_with fail
  refine (before_any w.drew x y).mono ?_
  rintro e w' ⟨rfl, hm⟩
  have HM := hid ((Mod.refl None w).drew.trans hm)
  clear hm
  go_wp2
  go_ret
  exact ⟨rfl, HM.out⟩
end Go.Proofs.Ytekobigoekfckaa

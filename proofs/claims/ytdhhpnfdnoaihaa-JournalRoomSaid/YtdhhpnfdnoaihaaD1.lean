/- A disk in memory, and the contracts of its small methods. -/
import Derived.Test.YtdhhpnfdnoaihaaL3
namespace Go.Proofs.Ytdhhpnfdnoaihaa
open Go.RowKit

/-- what a disk is -/
structure DSt where
  last : List (List UInt8)
  waits : List (Nat × List UInt8)
  armed : Int
  down : Bool
structure DSt.Ok (st : DSt) : Prop where
  one : 1 ≤ st.last.length
  most : st.last.length ≤ 65536
  sec : ∀ s ∈ st.last, s.length = 64
  wait : ∀ x ∈ st.waits, x.1 < st.last.length ∧ x.2.length = 64
  arm : -1 ≤ st.armed ∧ st.armed ≤ 9223372036854775807
def lastC (l : List (List UInt8)) : List Value := l.flatMap sC
def waitC (l : List (Nat × List UInt8)) : List Value := l.flatMap fun x => wC x.1 x.2
def OwnR (w : World) (S : Nat → Prop) (e : TypeId) (size : Nat) (v : Value) (n : Nat) (xs : List Value) : Prop := w.ownsRow 0 e size v n xs ∧ ∀ g, v.ownBlock = some g → S g
structure DiskAt (w : World) (S : Nat → Prop) (p : Nat) (st : DSt) (lv wv : Value) : Prop where
  obj : Blk w p 102 [lv, wv, .int .i64 st.armed, .bool st.down]
  own : S p
  last : OwnR w S 105 64 lv st.last.length (lastC st.last)
  waits : OwnR w S 107 65 wv st.waits.length (waitC st.waits)
  lp : lv.ownBlock ≠ some p
  wp : wv.ownBlock ≠ some p
  lw : ∀ g, lv.ownBlock = some g → wv.ownBlock ≠ some g
  ok : st.Ok
  lt : ∀ k, S k → k < w.heap.size
def IsDisk (w : World) (S : Nat → Prop) (p : Nat) (st : DSt) : Prop := ∃ lv wv, DiskAt w S p st lv wv

theorem OwnR.shape {w : World} {S : Nat → Prop} {e size : Nat} {v : Value} {n : Nat} {xs : List Value} (h : OwnR w S e size v n xs) :
    ∃ a c, v = .slice a n c ∧ n ≤ c ∧ c ≤ maxLen := by
  rcases h.1.2 with ⟨rfl, rfl⟩ | ⟨g, cap, cur, rfl, _, _, h1, h2, _⟩
  · exact ⟨none, 0, rfl, by simp, by simp⟩
  · exact ⟨_, cap, rfl, h1, h2⟩
theorem OwnR.open1 {w : World} {S : Nat → Prop} {e size : Nat} {v : Value} {n : Nat} {xs : List Value} (h : OwnR w S e size v n xs) (hn : 0 < n) :
    ∃ g cap rest, v = .slice (some ⟨g, 0, none⟩) n cap ∧ S g ∧ Blk w g e (xs ++ rest) ∧ n ≤ cap ∧ cap ≤ maxLen ∧ (xs ++ rest).length = cap * size ∧ xs.length = n * size := by
  obtain ⟨⟨h0, h1⟩, hS⟩ := h
  rcases h1 with ⟨rfl, rfl⟩ | ⟨g, cap, cur, rfl, _, hg, h1, h2, h3, h4⟩
  · omega
  · refine ⟨g, cap, cur.toList.drop (n * size), rfl, hS g rfl, ?_, h1, h2, ?_, h0⟩
    · unfold Blk; rw [← h4, List.take_append_drop]; exact hg
    · rw [← h4, List.take_append_drop]; simpa using h3
/-- unchanged blocks: what is owned stays owned -/
theorem OwnR.kept {w w' : World} {S S' T : Nat → Prop} {e size : Nat} {v : Value} {n : Nat} {xs : List Value} (h : OwnR w S e size v n xs) (hm : Mod T w w') (hT : ∀ g, v.ownBlock = some g → ¬ T g) (hS : ∀ g, S g → S' g) : OwnR w' S' e size v n xs := by
  obtain ⟨⟨h1, h2⟩, h3⟩ := h
  refine ⟨⟨h1, ?_⟩, fun g hg => hS g (h3 g hg)⟩
  rcases h2 with h2 | ⟨g, cap, cur, rfl, hb, hg, r⟩
  · exact .inl h2
  · refine .inr ⟨g, cap, cur, rfl, hb, ?_, r⟩
    rw [hm.block g (Array.getElem?_eq_some_iff.1 hg).1 (hT g rfl)]; exact hg

theorem DiskAt.cells {w : World} {S : Nat → Prop} {p : Nat} {st : DSt} {lv wv : Value} (h : DiskAt w S p st lv wv) :
    w.cell? ⟨p, 0, none⟩ = some lv ∧ w.cell? ⟨p, 1, none⟩ = some wv ∧ w.cell? ⟨p, 2, none⟩ = some (.int .i64 st.armed) ∧ w.cell? ⟨p, 3, none⟩ = some (.bool st.down) :=
  ⟨h.obj.is rfl, h.obj.is rfl, h.obj.is rfl, h.obj.is rfl⟩
theorem DiskAt.lastv {w : World} {S : Nat → Prop} {p : Nat} {st : DSt} {lv wv : Value} (h : DiskAt w S p st lv wv) :
    ∃ g cap rest, lv = .slice (some ⟨g, 0, none⟩) st.last.length cap ∧ S g ∧ Blk w g 105 (lastC st.last ++ rest) ∧ st.last.length ≤ cap ∧ cap ≤ maxLen ∧ (lastC st.last ++ rest).length = cap * 64 ∧ (lastC st.last).length = st.last.length * 64 :=
  h.last.open1 h.ok.one

def DSt.may (st : DSt) (i : Int) : Int := if st.down then 32 else if i < 0 ∨ (st.last.length : Int) ≤ i then 31 else 0

set_option maxHeartbeats 400000 in
theorem may_any (w : World) (S : Nat → Prop) (p : Nat) (st : DSt) (h : IsDisk w S p st) (i : Int) :
    Calls Try.prog 67 #[.pointer (some ⟨p, 0, none⟩), .int .i64 i] w fun e w' => e = .returned (.int .i64 (st.may i)) ∧ w = w' := by
  obtain ⟨lv, wv, h⟩ := h
  obtain ⟨h0, _, _, h3⟩ := h.cells
  obtain ⟨g, cap, rest, rfl, _⟩ := h.lastv
  have hp : st.may i = if st.down then 32 else if i < 0 ∨ (st.last.length : Int) ≤ i then 31 else 0 := rfl
  have HP := hid hp
  clear h hp
  by_cases hd : st.down = true
  · rw [hd] at h3
    rw [if_pos hd] at HP
    clear hd
    go_enter Try.func67, Try.ntmps67
    go_wp2
    go_ret
    exact ⟨rint HP.out.symm, rfl⟩
  · rw [Bool.not_eq_true] at hd
    rw [hd] at h3
    rw [if_neg (by simp [hd])] at HP
    clear hd
    by_cases hi : i < 0
    · rw [if_pos (.inl hi)] at HP
      go_enter Try.func67, Try.ntmps67
      go_wp2
      go_ret
      exact ⟨rint HP.out.symm, rfl⟩
    · by_cases hi2 : (st.last.length : Int) ≤ i
      · rw [if_pos (.inr hi2)] at HP
        go_enter Try.func67, Try.ntmps67
        go_wp2
        go_ret
        exact ⟨rint HP.out.symm, rfl⟩
      · rw [if_neg (by omega)] at HP
        go_enter Try.func67, Try.ntmps67
        go_wp2
        go_ret
        exact ⟨rint HP.out.symm, rfl⟩

theorem size_any (w : World) (S : Nat → Prop) (p : Nat) (st : DSt) (h : IsDisk w S p st) :
    Calls Try.prog 73 #[.pointer (some ⟨p, 0, none⟩)] w fun e w' => e = .returned (.int .i64 (st.last.length : Int)) ∧ w = w' := by
  obtain ⟨lv, wv, h⟩ := h
  obtain ⟨h0, _, _, h3⟩ := h.cells
  obtain ⟨g, cap, rest, rfl, _⟩ := h.lastv
  clear h
  go_enter Try.func73, Try.ntmps73
  go_wp2
  go_ret
  exact ⟨rfl, rfl⟩
theorem waits_any (w : World) (S : Nat → Prop) (p : Nat) (st : DSt) (h : IsDisk w S p st) :
    Calls Try.prog 36 #[.pointer (some ⟨p, 0, none⟩)] w fun e w' => e = .returned (.int .i64 (st.waits.length : Int)) ∧ w = w' := by
  obtain ⟨lv, wv, h⟩ := h
  obtain ⟨_, h1, _, _⟩ := h.cells
  obtain ⟨a, c, rfl, _, _⟩ := h.waits.shape
  clear h
  go_enter Try.func36, Try.ntmps36
  go_wp2
  go_ret
  exact ⟨rfl, rfl⟩
theorem down_any (w : World) (S : Nat → Prop) (p : Nat) (st : DSt) (h : IsDisk w S p st) :
    Calls Try.prog 31 #[.pointer (some ⟨p, 0, none⟩)] w fun e w' => e = .returned (.bool st.down) ∧ w = w' := by
  obtain ⟨lv, wv, h⟩ := h
  obtain ⟨_, _, _, h3⟩ := h.cells
  clear h
  go_enter Try.func31, Try.ntmps31
  go_wp2
  go_ret
  exact ⟨rfl, rfl⟩
end Go.Proofs.Ytdhhpnfdnoaihaa

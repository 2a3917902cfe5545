/- utf.Bad. -/
import Derived.Test.YtmafdlabbgpacaaC2
namespace Go.Proofs.Ytmafdlabbgpacaa
open Go.RowKit

def badF : Nat → List UInt8 → Nat → Int
  | 0, _, _ => -1
  | f + 1, l, k => if k < l.length then (if (nextL l k).2 = 0 then (k : Int) else badF f l (k + (nextL l k).2.toNat)) else -1
def badL (l : List UInt8) : Int := badF (l.length + 1) l 0
theorem head_n (c : UInt8) : (headL c).2 ≤ 4 := by
  unfold headL; repeat (split; simp)
  simp
theorem tail_n (r : Int) (n : Nat) (l : List UInt8) : 0 ≤ (tailL r n l).2 ∧ (tailL r n l).2 ≤ n := by
  unfold tailL
  split
  · simp
  · split
    · split
      · simp
      · simp
    · simp
theorem next_n (l : List UInt8) (k : Int) : 0 ≤ (nextL l k).2 ∧ (nextL l k).2 ≤ 4 := by
  unfold nextL
  split
  · simp
  · generalize l.drop k.toNat = m
    cases m with
    | nil => simp [readL]
    | cons c m =>
      show 0 ≤ (if c.toNat < 128 then ((c.toNat : Int), (1 : Int)) else if (headL c).2 = 0 then (0, 0) else tailL (headL c).1 (headL c).2 m).2 ∧ (if c.toNat < 128 then ((c.toNat : Int), (1 : Int)) else if (headL c).2 = 0 then (0, 0) else tailL (headL c).1 (headL c).2 m).2 ≤ 4
      split
      · simp
      · split
        · simp
        · have := tail_n (headL c).1 (headL c).2 m
          have := head_n c
          omega
def BPost (z : Int) (w : World) (e : Ending) (w' : World) : Prop := e = .returned (.int .i64 z) ∧ Mod None w w'
def badRel (l : List UInt8) (w wr : World) (k : Nat) : Prop := ∃ f, badF f l k = badL l ∧ l.length < f + k ∧ Mod None w wr
theorem bad_end {l : List UInt8} {w wr : World} {k : Nat} (h : badRel l w wr k) (hk : ¬ k < l.length) : badL l = -1 := by
  obtain ⟨f, h1, h2, _⟩ := h
  rw [← h1]
  cases f with
  | zero => rfl
  | succ f => show (if k < l.length then _ else _) = _; rw [if_neg hk]
theorem bad_here {l : List UInt8} {w wr : World} {k : Nat} (h : badRel l w wr k) (hk : k < l.length) (h0 : (nextL l k).2 = 0) : badL l = k := by
  obtain ⟨f, h1, h2, _⟩ := h
  rw [← h1]
  cases f with
  | zero => omega
  | succ f => show (if k < l.length then _ else _) = _; rw [if_pos hk, if_pos h0]
theorem bad_on {l : List UInt8} {w wr w2 : World} {k : Nat} (h : badRel l w wr k) (hk : k < l.length) (h0 : ¬ (nextL l k).2 = 0) (hm : Mod None wr w2) : badRel l w w2 (k + (nextL l k).2.toNat) := by
  obtain ⟨f, h1, h2, h3⟩ := h
  cases f with
  | zero => omega
  | succ f =>
    refine ⟨f, ?_, ?_, h3.trans hm⟩
    · rw [← h1]; show _ = (if k < l.length then _ else _); rw [if_pos hk, if_neg h0]
    · have := next_n l k
      omega
set_option maxRecDepth 100000 in
set_option maxHeartbeats 800000 in
theorem bad_any (w : World) (s : ByteArray) (hs : s.size ≤ 140737488351232) : Calls Try.prog 11 #[.string s] w (BPost (badL s.data.toList) w) := by
  have hlen : s.data.toList.length = s.size := Array.length_toList
  have HL := hid hlen
  clear hlen
  go_enter Try.func11, Try.ntmps11
  go_wp2
  go_loopw [3] (fun i wr => ∃ k : Nat, k ≤ s.size + 4 ∧ i = .int .i64 k ∧ Hid (badRel s.data.toList w wr k)) (fun i _ => s.size + 4 - (intOf i).toNat)
  case atStart => exact ⟨0, by omega, rfl, _, rfl, by omega, Mod.refl _ _⟩
  case round =>
    obtain ⟨k, hk, rfl, hr⟩ := hrel
    by_cases hlt : k < s.size
    · have hlt' : (k : Int) < (s.size : Int) := by omega
      have HK := hid hlt
      go_wp2_with fail
      refine (next_any wr s k hs).mono ?_
      rintro e w2 ⟨rfl, hm⟩
      have HM := hid hm
      clear hm
      have hn := next_n s.data.toList k
      have HON := hid (bad_on (w2 := w2) hr.out (by rw [HL.out]; exact HK.out))
      have HHERE := hid (bad_here hr.out (by rw [HL.out]; exact HK.out))
      generalize nextL s.data.toList k = rn at *
      obtain ⟨r, n⟩ := rn
      simp only at hn HON HHERE
      by_cases h0 : n = 0
      · subst h0
        go_wp2_with fail
        go_ret
        refine ⟨?_, ?_⟩
        · rw [HHERE.out trivial]; rfl
        · obtain ⟨_, _, _, h3⟩ := hr.out; exact h3.trans HM.out
      · obtain ⟨m, rfl⟩ : ∃ m : Nat, n = m := ⟨n.toNat, by omega⟩
        have hr2 := hid (HON.out h0 HM.out)
        rw [Int.toNat_natCast] at hr2
        have hm4 : m ≤ 4 := by omega
        have h0' : 0 < m := by omega
        clear HON HHERE hn hr
        go_wp2_with fail
        go_roundw
        case rel => exact ⟨k + m, by omega, by go_num, hr2.out⟩
        case measure => simp [intOf]; omega
    · have hlt' : ¬ (k : Int) < (s.size : Int) := by omega
      have HB := hid (bad_end hr.out (by rw [HL.out]; exact hlt))
      go_wp2_with fail
      go_ret
      refine ⟨by rw [HB.out]; rfl, ?_⟩
      obtain ⟨_, _, _, h3⟩ := hr.out; exact h3
end Go.Proofs.Ytmafdlabbgpacaa

/- Line and Column of the document. -/
import Derived.Test.YtmafdlabbgpacaaC7
namespace Go.Proofs.Ytmafdlabbgpacaa
open Go.RowKit

set_option maxRecDepth 100000 in
set_option maxHeartbeats 800000 in
theorem line_any (w : World) (s : ByteArray) (at' : Int) (hs : s.size ≤ 140737488351232) : Calls Try.prog 15 #[.string s, .int .i64 at'] w fun e w' => e = .returned (.int .i64 (placeL s.data.toList at').1) ∧ w = w' := by
  have hlen : s.data.toList.length = s.size := Array.length_toList
  have hp : placeL s.data.toList at' = posL (s.data.toList.take (clampN at' s.size)) := by unfold placeL; rw [hlen]
  rw [hp]
  have hle := clamp_le at' s.size
  have hm1 : ∀ j : Nat, j < clampN at' s.size → j < s.size ∧ (j : Int) < at' := fun j hj => by unfold clampN at hj; omega
  have hm2 : ∀ j : Nat, ¬ j < clampN at' s.size → ¬ ((j : Int) < (s.size : Int) ∧ (j : Int) < at') := fun j hj => by unfold clampN at hj; omega
  have hget : ∀ i (h : i < s.size), s.data.toList[i]? = some s[i] := fun i h => by rw [List.getElem?_eq_getElem (by simpa using h)]; rfl
  have HM1 := hid hm1
  have HM2 := hid hm2
  have HGET := hid hget
  clear hm1 hm2 hget hp
  have HLEN := hid hlen
  clear hlen
  generalize clampN at' s.size = m at *
  generalize s.data.toList = tl at *
  go_enter Try.func15, Try.ntmps15
  go_wp2_with fail
  go_loopw [5, 6] (fun b i wr => ∃ j : Nat, j ≤ m ∧ i = .int .i64 j ∧ b = .int .i64 (posL (tl.take j)).1 ∧ wr = w) (fun _ i _ => m - (intOf i).toNat)
  case atStart => exact ⟨0, by omega, rfl, rfl, rfl⟩
  case round =>
    obtain ⟨j, hj, rfl, rfl, rfl⟩ := hrel
    by_cases hlt : j < m
    · obtain ⟨hj1, hj2⟩ := HM1.out j hlt
      have hj1' : (j : Int) < (s.size : Int) := by omega
      obtain ⟨d, hd⟩ : ∃ d, s[j] = d := ⟨_, rfl⟩
      have hdt := HGET.out j hj1
      rw [hd] at hdt
      have hb := pos_bound (tl.take j)
      have hsn := pos_snoc (tl.take j) d
      rw [← take_snoc hdt] at hsn
      have HSN := hid hsn
      have ht := ten d
      have hjl : (tl.take j).length ≤ j := by rw [List.length_take]; omega
      clear hdt hsn
      generalize posL (tl.take j) = pj at *
      obtain ⟨pl, pc⟩ := pj
      simp only at hb
      by_cases h10 : d = 10
      · subst h10
        go_wp2_with fail
        go_roundw
        case rel => exact ⟨j + 1, by omega, by go_num, by rw [HSN.out, if_pos rfl], trivial⟩
        case measure => simp [intOf]; omega
      · have HH := hid h10
        rw [decide_eq_false h10] at ht
        go_wp2_with fail
        go_roundw
        case rel => exact ⟨j + 1, by omega, by go_num, by rw [HSN.out, if_neg HH.out], trivial⟩
        case measure => simp [intOf]; omega
    · obtain rfl : j = m := by omega
      have hnn := HM2.out j hlt
      by_cases hz : (j : Int) < (s.size : Int)
      · have hz2 : ¬ (j : Int) < at' := by omega
        clear hnn
        go_wp2_with fail
        go_ret
        exact ⟨rfl, rfl⟩
      · clear hnn
        go_wp2_with fail
        go_ret
        exact ⟨rfl, rfl⟩
set_option maxRecDepth 100000 in
set_option maxHeartbeats 800000 in
theorem column_any (w : World) (s : ByteArray) (at' : Int) (hs : s.size ≤ 140737488351232) : Calls Try.prog 16 #[.string s, .int .i64 at'] w fun e w' => e = .returned (.int .i64 (placeL s.data.toList at').2) ∧ w = w' := by
  have hlen : s.data.toList.length = s.size := Array.length_toList
  have hp : placeL s.data.toList at' = posL (s.data.toList.take (clampN at' s.size)) := by unfold placeL; rw [hlen]
  rw [hp]
  have hle := clamp_le at' s.size
  have hm1 : ∀ j : Nat, j < clampN at' s.size → j < s.size ∧ (j : Int) < at' := fun j hj => by unfold clampN at hj; omega
  have hm2 : ∀ j : Nat, ¬ j < clampN at' s.size → ¬ ((j : Int) < (s.size : Int) ∧ (j : Int) < at') := fun j hj => by unfold clampN at hj; omega
  have hget : ∀ i (h : i < s.size), s.data.toList[i]? = some s[i] := fun i h => by rw [List.getElem?_eq_getElem (by simpa using h)]; rfl
  have HM1 := hid hm1
  have HM2 := hid hm2
  have HGET := hid hget
  clear hm1 hm2 hget hp
  have HLEN := hid hlen
  clear hlen
  generalize clampN at' s.size = m at *
  generalize s.data.toList = tl at *
  go_enter Try.func16, Try.ntmps16
  go_wp2_with fail
  go_loopw [5, 6] (fun b i wr => ∃ j : Nat, j ≤ m ∧ i = .int .i64 j ∧ b = .int .i64 (posL (tl.take j)).2 ∧ wr = w) (fun _ i _ => m - (intOf i).toNat)
  case atStart => exact ⟨0, by omega, rfl, rfl, rfl⟩
  case round =>
    obtain ⟨j, hj, rfl, rfl, rfl⟩ := hrel
    by_cases hlt : j < m
    · obtain ⟨hj1, hj2⟩ := HM1.out j hlt
      have hj1' : (j : Int) < (s.size : Int) := by omega
      obtain ⟨d, hd⟩ : ∃ d, s[j] = d := ⟨_, rfl⟩
      have hdt := HGET.out j hj1
      rw [hd] at hdt
      have hb := pos_bound (tl.take j)
      have hsn := pos_snoc (tl.take j) d
      rw [← take_snoc hdt] at hsn
      have HSN := hid hsn
      have ht := ten d
      have hjl : (tl.take j).length ≤ j := by rw [List.length_take]; omega
      clear hdt hsn
      generalize posL (tl.take j) = pj at *
      obtain ⟨pl, pc⟩ := pj
      simp only at hb
      by_cases h10 : d = 10
      · subst h10
        go_wp2_with fail
        go_roundw
        case rel => exact ⟨j + 1, by omega, by go_num, by rw [HSN.out, if_pos rfl], trivial⟩
        case measure => simp [intOf]; omega
      · have HH := hid h10
        rw [decide_eq_false h10] at ht
        go_wp2_with fail
        go_roundw
        case rel => exact ⟨j + 1, by omega, by go_num, by rw [HSN.out, if_neg HH.out], trivial⟩
        case measure => simp [intOf]; omega
    · obtain rfl : j = m := by omega
      have hnn := HM2.out j hlt
      by_cases hz : (j : Int) < (s.size : Int)
      · have hz2 : ¬ (j : Int) < at' := by omega
        clear hnn
        go_wp2_with fail
        go_ret
        exact ⟨rfl, rfl⟩
      · clear hnn
        go_wp2_with fail
        go_ret
        exact ⟨rfl, rfl⟩
end Go.Proofs.Ytmafdlabbgpacaa

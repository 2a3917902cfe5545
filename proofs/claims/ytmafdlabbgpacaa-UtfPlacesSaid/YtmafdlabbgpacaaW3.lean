/- The walk of UtfPlaces. -/
import Derived.Test.YtmafdlabbgpacaaC9
import Derived.Test.YtmafdlabbgpacaaV1
namespace Go.Proofs.Ytmafdlabbgpacaa
open Go.RowKit

theorem place_next {l : List UInt8} {k : Nat} {c : UInt8} (h : l[k]? = some c) : placeL l ((k : Int) + 1) = if c = 10 then ((placeL l k).1 + 1, 1) else ((placeL l k).1, (placeL l k).2 + 1) := by
  obtain ⟨hlt, _⟩ := List.getElem?_eq_some_iff.1 h
  have e1 : clampN (k : Int) l.length = k := by unfold clampN; omega
  have e2 : clampN ((k : Int) + 1) l.length = k + 1 := by unfold clampN; omega
  unfold placeL
  rw [e1, e2, take_snoc h, pos_snoc]
theorem place_bound (l : List UInt8) (a : Int) : 1 ≤ (placeL l a).1 ∧ (placeL l a).1 ≤ 1 + l.length ∧ 1 ≤ (placeL l a).2 ∧ (placeL l a).2 ≤ 1 + l.length := by
  have := pos_bound (l.take (clampN a l.length))
  rw [List.length_take] at this
  unfold placeL
  omega
set_option maxRecDepth 100000 in
set_option maxHeartbeats 800000 in
theorem UtfPlaces_walk (w : World) (s : ByteArray) (hs : s.size ≤ 140737488351232) (a1 : Int) (_ : (Lit.int .i64 a1).wf = true) :
    Calls Try.prog 6 #[.string s, .int .i64 a1] w fun e w' => e = .returned (.bool true) ∧ Below w.heap.size w w' := by
  have HS := hid hs
  have hlen : s.data.toList.length = s.size := Array.length_toList
  have hpb := place_bound s.data.toList a1
  have hget : ∀ i (h : i < s.size), s.data.toList[i]? = some s[i] := fun i h => by rw [List.getElem?_eq_getElem (by simpa using h)]; rfl
  have HNX := hid (fun (k : Nat) c (h : s.data.toList[k]? = some c) => place_next h)
  have HGET := hid hget
  rw [hlen] at hpb
  clear hlen hget
  obtain ⟨r1, r2, hr⟩ : ∃ r1 r2, placeL s.data.toList a1 = (r1, r2) := ⟨_, _, rfl⟩
  rw [hr] at hpb
  simp only at hpb
  have HR := hid hr
  clear hr
  go_enter Try.func6, Try.ntmps6
  go_wp2_with fail
  refine (place_any w s a1 HS.out).mono ?_
  rw [HR.out]
  rintro e w1 ⟨rfl, hm⟩
  have H1 := hid hm
  clear hm
  go_wp2_with fail
  refine (awake7_any w1).mono ?_
  rintro e w2 ⟨rfl, hm⟩
  have H2 := hid hm
  clear hm
  go_wp2_with fail
  refine (line_any w2 s a1 HS.out).mono ?_
  rw [HR.out]
  rintro e w3 ⟨rfl, rfl⟩
  go_wp2_with fail
  refine (column_any w2 s a1 HS.out).mono ?_
  rw [HR.out]
  rintro e w3 ⟨rfl, rfl⟩
  by_cases hneg : a1 < 0
  · go_wp2_with fail
    go_ret
    exact ⟨rfl, (H1.out.trans H2.out).below _ (Nat.le_refl _) (fun _ h => h.elim)⟩
  obtain ⟨k, rfl⟩ : ∃ k : Nat, a1 = k := ⟨a1.toNat, by omega⟩
  by_cases hge : s.size ≤ k
  · go_wp2_with fail
    go_ret
    exact ⟨rfl, (H1.out.trans H2.out).below _ (Nat.le_refl _) (fun _ h => h.elim)⟩
  have hk : k < s.size := by omega
  have hk' : (k : Int) < (s.size : Int) := by omega
  obtain ⟨c, hc⟩ : ∃ c, s[k] = c := ⟨_, rfl⟩
  have hg := HGET.out k hk
  rw [hc] at hg
  have hnx := HNX.out k c hg
  rw [HR.out] at hnx
  have HN := hid hnx
  have ht := ten c
  clear hnx hg hneg
  go_wp2_with fail
  refine (place_any w2 s ((k : Int) + 1) HS.out).mono ?_
  rw [HN.out]
  by_cases h10 : c = 10
  · subst h10
    rw [if_pos rfl]
    rintro e w4 ⟨rfl, hm⟩
    have H4 := hid hm
    clear hm
    go_wp2_with fail
    go_ret
    exact ⟨by simp, ((H1.out.trans H2.out).trans H4.out).below _ (Nat.le_refl _) (fun _ h => h.elim)⟩
  · rw [if_neg h10]
    rw [decide_eq_false h10] at ht
    rintro e w4 ⟨rfl, hm⟩
    have H4 := hid hm
    clear hm
    go_wp2_with fail
    go_ret
    exact ⟨by simp, ((H1.out.trans H2.out).trans H4.out).below _ (Nat.le_refl _) (fun _ h => h.elim)⟩
end Go.Proofs.Ytmafdlabbgpacaa

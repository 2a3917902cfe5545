/- awake. -/
import Derived.Test.YtekobigoekfckaaT0
namespace Go.Proofs.Ytekobigoekfckaa
open Go.RowKit

def APost8 (w : World) (e : Ending) (w' : World) : Prop := e = .returned (.bool true) ∧ Mod None w w'
theorem i64s (a b : Int) (h : -1000 ≤ a ∧ a ≤ 1000 ∧ -1000 ≤ b ∧ b ≤ 1000) : In64 a ∧ In64 b := by unfold In64; omega
set_option maxHeartbeats 6400000 in
theorem awake_any (w : World) : Calls Try.prog 8 #[] w (APost8 w) := by
  have HN := hid (live_new w w (Mod.refl _ _))
  unfold LNew Ptr at HN
  go_enter Try.func8, Try.ntmps8
  go_wp2_with fail
  refine HN.out.mono ?_
  rintro e w1 ⟨p, S, rfl, h1, _, _⟩
  have HP := hid (live_put h1 (2, 5) (i64s _ _ (by omega)) (by simp))
  rw [show putL [] (2, 5) = [(2, 5)] by decide, show there [] ((2, 5) : Ent).1 = false by decide] at HP
  unfold Ptr LPost at HP
  clear HN h1
  go_wp2_with fail
  refine HP.out.mono ?_
  rintro e w2 ⟨S2, rfl, h2, _⟩
  have HP2 := hid (live_put h2 (1, 5) (i64s _ _ (by omega)) (by simp))
  rw [show putL [(2, 5)] (1, 5) = [(1, 5), (2, 5)] by decide, show there [(2, 5)] ((1, 5) : Ent).1 = false by decide] at HP2
  unfold Ptr LPost at HP2
  clear HP h2
  go_wp2_with fail
  refine HP2.out.mono ?_
  rintro e w3 ⟨S3, rfl, h3, _⟩
  have HP3 := hid (live_put h3 (3, 4) (i64s _ _ (by omega)) (by simp))
  rw [show putL [(1, 5), (2, 5)] (3, 4) = [(3, 4), (1, 5), (2, 5)] by decide, show there [(1, 5), (2, 5)] ((3, 4) : Ent).1 = false by decide] at HP3
  unfold Ptr LPost at HP3
  clear HP2 h3
  go_wp2_with fail
  refine HP3.out.mono ?_
  rintro e w4 ⟨S4, rfl, h4, _⟩
  have HP4 := hid (live_put h4 (3, 9) (i64s _ _ (by omega)) (by simp))
  rw [show putL [(3, 4), (1, 5), (2, 5)] (3, 9) = [(1, 5), (2, 5), (3, 9)] by decide, show there [(3, 4), (1, 5), (2, 5)] ((3, 9) : Ent).1 = true by decide] at HP4
  unfold Ptr LPost at HP4
  clear HP3 h4
  go_wp2_with fail
  refine HP4.out.mono ?_
  rintro e w5 ⟨S5, rfl, h5, _⟩
  have HF := hid (live_first h5)
  unfold Ptr SPost firstL V at HF
  clear HP4 h5
  go_wp2_with fail
  refine HF.out.mono ?_
  rintro e w6 ⟨rfl, h6, _⟩
  have HT := hid (fun o => live_take (h6.alloc o) 4 (by simp))
  rw [show takeL [(1, 5), (2, 5), (3, 9)] 4 = (((0, 0), false), [(1, 5), (2, 5), (3, 9)]) by decide] at HT
  unfold Ptr LPost V at HT
  clear HF
  go_wp2_with fail
  refine (HT.out _).mono ?_
  rintro e w7 ⟨S7, rfl, h7, ht7⟩
  have hq := ht7.mod.blk (Blk.new w6 36 #[.int .i64 1, .int .i64 5]) (fun h => by have := h6.ag.lt _ h; omega)
  have hS7 : ¬ S7 w6.heap.size := fun h => by
    have := h6.ag.lt _ (ht7.old _ (by rw [World.size_alloc]; omega) h)
    omega
  generalize w6.heap.size = q at *
  have HQ := hid (fun o => hq.alloc o)
  have HT2 := hid (fun o => live_take (h7.alloc o) 5 (by simp))
  rw [show takeL [(1, 5), (2, 5), (3, 9)] 5 = (((1, 5), true), [(2, 5), (3, 9)]) by decide] at HT2
  unfold Ptr LPost V at HT2
  clear HT h6 h7 ht7 hq
  go_wp2_with fail
  refine (HT2.out _).mono ?_
  rintro e w8 ⟨S8, rfl, h8, ht8⟩
  have hq := ht8.mod.blk (HQ.out _) hS7
  have z0 := hq.is (i := 0) rfl
  have z1 := hq.is (i := 1) rfl
  have hlt := hq.lt
  have HLN := hid (fun o => live_len (h8.alloc o))
  have HM := hid (fun o => (h8.alloc o).mod)
  unfold Ptr at HLN
  clear HT2 ht8 hq HQ h8
  go_wp2_with fail
  refine (HLN.out _).mono ?_
  rintro e w9 ⟨rfl, rfl⟩
  go_wp2_with fail
  go_ret
  exact ⟨rfl, HM.out _⟩
end Go.Proofs.Ytekobigoekfckaa

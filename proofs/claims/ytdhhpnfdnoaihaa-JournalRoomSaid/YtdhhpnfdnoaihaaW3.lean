/- The walk of CrcJoins. -/
import Derived.Test.YtdhhpnfdnoaihaaW2
namespace Go.Proofs.Ytdhhpnfdnoaihaa
open Go.RowKit

theorem Part.mod {S : Nat → Prop} {w w' : World} (h : Mod S w w') {v : Value} {l : List UInt8} (hp : Part w v l) (hn : ∀ i, i < w.heap.size → ¬ S i) : Part w' v l := by
  obtain ⟨a, c, rfl, hr, hl⟩ := hp
  refine ⟨a, c, rfl, ?_, hl⟩
  rcases hr with hr | ⟨b, o, rfl, hc⟩
  · exact .inl hr
  · by_cases h0 : l.map B = []
    · exact .inl h0
    · have hlt := RdV.lt (.inr ⟨b, o, rfl, hc⟩) h0
      exact h.rd (.inr ⟨b, o, rfl, hc⟩) (fun x e => by cases e; exact hn b hlt)
theorem VBytes.part {w : World} {v : Value} {l : List UInt8} (h : VBytes w v l) : Part w v l := by
  obtain ⟨a, c, rfl, hl, hr⟩ := h; exact ⟨a, c, rfl, hr, hl⟩
/-- the sum of parts whose slice was just made -/
theorem sum_made (W : World) (ls : List (List UInt8)) (C : Array Value) (n q : Nat) (hn : n = ls.length) (hq : q = W.heap.size) (hs : C.size = ls.length) (hl : ls.length ≤ 100)
    (hp : ∀ i, (h : i < ls.length) → ∃ v, C[i]? = some v ∧ Part W v ls[i]) (l : List UInt8) (hf : ls.flatten = l) :
    Calls Try.prog 24 #[.slice (some ⟨q, 0, none⟩) n n] (W.alloc (.cells C 27)) fun e w' => e = .returned (U32 (csum l)) ∧ W.alloc (.cells C 27) = w' := by
  subst hn hq hf
  refine (sum_any (some ⟨W.heap.size, 0, none⟩) ls.length ls _ (.inr ⟨_, 0, rfl, fun i hi => ?_⟩) (by omega)).mono fun e w' h => h
  obtain ⟨v, hv, hpv⟩ := hp i hi
  exact ⟨v, by rw [Nat.zero_add, cell_new, hv], hpv.mod ((Mod.refl None _).alloc _) (fun _ _ h => h)⟩
theorem joins_eq (a b : List UInt8) : PCrc.pow b.length (csum a) ^^^ csum b = csum (a ++ b) := by
  have := PCrc.join (a.map UInt8.toBitVec) (b.map UInt8.toBitVec)
  rw [List.length_map, ← List.map_append] at this; exact this

set_option maxHeartbeats 800000 in
theorem CrcJoins_walk (w : World) (v0 : Value) (l0 : List UInt8) (w0 : VBytes w v0 l0) (v1 : Value) (l1 : List UInt8) (w1 : VBytes w v1 l1) :
    Calls Try.prog 5 #[v0, v1] w fun e w' => e = .returned (.bool true) ∧ Below w.heap.size w w' := by
  have hp0 := w0.part
  have hp1 := w1.part
  obtain ⟨a0, c0, rfl, hl0, _⟩ := w0
  obtain ⟨a1, c1, rfl, hl1, _⟩ := w1
  have HP0 := hid hp0
  have HP1 := hid hp1
  clear hp0 hp1
  by_cases h0 : l0.length > 524288
  · have hb' : (524288 : Int) < (l0.length : Int) := by omega
    clear hl0 hl1
    go_enter Try.func5, Try.ntmps5
    go_wp2_with fail
    refine (awake2_any _).mono ?_
    rintro e w' ⟨rfl, hm⟩
    have HM := hid hm; clear hm
    go_wp2_with fail
    refine (awake2_any _).mono ?_
    rintro e w'' ⟨rfl, hm⟩
    have HM2 := hid hm; clear hm
    go_wp2_with fail
    go_ret
    exact ⟨rfl, (HM.out.trans HM2.out).below _ (Nat.le_refl _) (fun _ h => h.elim)⟩
  · by_cases h1 : l1.length > 524288
    · have hb' : (524288 : Int) < (l1.length : Int) := by omega
      have hb'' : ¬ (524288 : Int) < (l0.length : Int) := by omega
      clear hl0 hl1
      go_enter Try.func5, Try.ntmps5
      go_wp2_with fail
      refine (awake2_any _).mono ?_
      rintro e w' ⟨rfl, hm⟩
      have HM := hid hm; clear hm
      go_wp2_with fail
      refine (awake2_any _).mono ?_
      rintro e w'' ⟨rfl, hm⟩
      have HM2 := hid hm; clear hm
      go_wp2_with fail
      go_ret
      exact ⟨rfl, (HM.out.trans HM2.out).below _ (Nat.le_refl _) (fun _ h => h.elim)⟩
    · have hb' : ¬ (524288 : Int) < (l1.length : Int) := by omega
      have hb'' : ¬ (524288 : Int) < (l0.length : Int) := by omega
      have hle : l1.length ≤ 1048576 := by omega
      have HLE := hid hle
      clear hl0 hl1 hle
      go_enter Try.func5, Try.ntmps5
      go_wp2_with fail
      refine (awake2_any _).mono ?_
      rintro e w' ⟨rfl, hm⟩
      have HQ0 := hid (HP0.out.mod hm (fun _ _ h => h))
      have HQ1 := hid (HP1.out.mod hm (fun _ _ h => h))
      have HM := hid hm
      clear hm HP0 HP1
      go_wp2_with fail
      refine (sum_made _ [l0] _ _ _ rfl (by simp) rfl (by simp) (fun i hi => ?_) l0 (by simp)).mono ?_
      · obtain rfl : i = 0 := by simpa using hi
        exact ⟨_, rfl, HQ0.out⟩
      rintro e w2 ⟨rfl, rfl⟩
      go_wp2_with fail
      refine (sum_made _ [l1] _ _ _ rfl (by simp) rfl (by simp) (fun i hi => ?_) l1 (by simp)).mono ?_
      · obtain rfl : i = 0 := by simpa using hi
        exact ⟨_, rfl, HQ1.out.mod ((Mod.refl None _).alloc _) (fun _ _ h => h)⟩
      rintro e w2 ⟨rfl, rfl⟩
      go_wp2_with fail
      refine (join_any (csum l0) (csum l1) l1.length HLE.out _).mono ?_
      rintro e w2 ⟨rfl, hm2⟩
      have HQ2 := hid ((HQ0.out.mod (((Mod.refl None _).alloc _).alloc _) (fun _ _ h => h)).mod hm2 (fun _ _ h => h))
      have HQ3 := hid ((HQ1.out.mod (((Mod.refl None _).alloc _).alloc _) (fun _ _ h => h)).mod hm2 (fun _ _ h => h))
      have HM2 := hid (((HM.out.alloc _).alloc _).trans hm2)
      clear hm2 HQ0 HQ1 HM
      rw [joins_eq]
      go_wp2_with fail
      refine (sum_made _ [l0, l1] _ _ _ rfl rfl rfl (by simp) (fun i hi => ?_) (l0 ++ l1) (by simp)).mono ?_
      · match i, hi with
        | 0, _ => exact ⟨_, rfl, HQ2.out⟩
        | 1, _ => exact ⟨_, rfl, HQ3.out⟩
      rintro e w3 ⟨rfl, rfl⟩
      go_wp2_with fail
      go_ret
      exact ⟨ret_bool (by simp), (HM2.out.alloc _).below _ (Nat.le_refl _) (fun _ h => h.elim)⟩
end Go.Proofs.Ytdhhpnfdnoaihaa

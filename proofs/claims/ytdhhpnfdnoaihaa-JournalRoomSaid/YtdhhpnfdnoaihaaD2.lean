/- A disk's changes are counted; it is armed. -/
import Derived.Test.YtdhhpnfdnoaihaaD1
namespace Go.Proofs.Ytdhhpnfdnoaihaa
open Go.RowKit

theorem DiskAt.obj' {w w' : World} {S : Nat → Prop} {p : Nat} {st : DSt} {lv wv : Value} (h : DiskAt w S p st lv wv) (hm : Mod (fun k => k = p) w w') {a : Int} {d : Bool}
    (hb : Blk w' p 102 [lv, wv, .int .i64 a, .bool d]) (ha : -1 ≤ a ∧ a ≤ 9223372036854775807) : DiskAt w' S p { st with armed := a, down := d } lv wv where
  obj := hb
  own := h.own
  last := h.last.kept hm (fun g hg e => h.lp (by rw [hg, e])) (fun _ h => h)
  waits := h.waits.kept hm (fun g hg e => h.wp (by rw [hg, e])) (fun _ h => h)
  lp := h.lp
  wp := h.wp
  lw := h.lw
  ok := ⟨h.ok.one, h.ok.most, h.ok.sec, h.ok.wait, ha⟩
  lt := fun k hk => Nat.lt_of_lt_of_le (h.lt k hk) hm.size

def DSt.changed (st : DSt) : DSt := if 0 < st.armed then { st with armed := st.armed - 1, down := st.armed - 1 == 0 } else st
def DiskPost (v : Value) (S : Nat → Prop) (p : Nat) (st : DSt) (T : Nat → Prop) (w : World) (e : Ending) (w' : World) : Prop :=
  e = .returned v ∧ IsDisk w' S p st ∧ Mod T w w'

set_option maxHeartbeats 400000 in
theorem changed_any (w : World) (S : Nat → Prop) (p : Nat) (st : DSt) (h : IsDisk w S p st) :
    Calls Try.prog 66 #[.pointer (some ⟨p, 0, none⟩)] w (DiskPost (.tuple #[]) S p st.changed (fun k => k = p) w) := by
  obtain ⟨lv, wv, h⟩ := h
  obtain ⟨_, _, h2, h3⟩ := h.cells
  have f2 := h.obj.free 2
  have f3 := h.obj.free 3
  have H := hid h
  have harm := h.ok.arm
  clear h
  obtain ⟨arm, hd⟩ : ∃ arm, arm = st.armed := ⟨_, rfl⟩
  rw [← hd] at h2 harm
  have HA := hid hd
  clear hd
  by_cases hlt : 0 < arm
  · have hs : st.changed = { st with armed := arm - 1, down := arm - 1 == 0 } := by unfold DSt.changed; rw [← HA.out, if_pos hlt]
    have HS := hid hs
    clear hs
    go_enter Try.func66, Try.ntmps66
    go_wp2
    go_end0
    refine ⟨rfl, ?_, ?_⟩
    · rw [HS.out]
      refine ⟨lv, wv, H.out.obj' ?_ ?_ (by omega)⟩
      · exact Mod.set (S := fun k => k = p) (Mod.set (S := fun k => k = p) (Mod.refl _ _) (.inl rfl) _) (.inl rfl) _
      · exact (H.out.obj.set 2 _).set 3 _
    · exact Mod.set (S := fun k => k = p) (Mod.set (S := fun k => k = p) (Mod.refl _ _) (.inl rfl) _) (.inl rfl) _
  · have hs : st.changed = st := by unfold DSt.changed; rw [← HA.out, if_neg hlt]
    have HS := hid hs
    clear hs
    go_enter Try.func66, Try.ntmps66
    go_wp2
    go_end0
    exact ⟨rfl, by rw [HS.out]; exact ⟨lv, wv, H.out⟩, Mod.refl _ _⟩

def DSt.arm' (st : DSt) (n : Int) : DSt := if st.down then st else { st with armed := max n (-1), down := n == 0 }
set_option maxHeartbeats 400000 in
theorem arm_any (w : World) (S : Nat → Prop) (p : Nat) (st : DSt) (h : IsDisk w S p st) (n : Int) (hn : n ≤ 9223372036854775807) :
    Calls Try.prog 28 #[.pointer (some ⟨p, 0, none⟩), .int .i64 n] w (DiskPost (.tuple #[]) S p (st.arm' n) (fun k => k = p) w) := by
  obtain ⟨lv, wv, h⟩ := h
  obtain ⟨_, _, h2, h3⟩ := h.cells
  have f2 := h.obj.free 2
  have f3 := h.obj.free 3
  have H := hid h
  clear h
  by_cases hd : st.down = true
  · have hs : st.arm' n = st := by unfold DSt.arm'; rw [if_pos hd]
    have HS := hid hs
    clear hs
    rw [hd] at h3
    clear hd hn
    go_enter Try.func28, Try.ntmps28
    go_wp2
    go_end0
    exact ⟨rfl, by rw [HS.out]; exact ⟨lv, wv, H.out⟩, Mod.refl _ _⟩
  · rw [Bool.not_eq_true] at hd
    obtain ⟨m, hm1, hm2, hmx⟩ : ∃ m : Int, (-1 ≤ n → m = n) ∧ (n ≤ -1 → m = -1) ∧ max n (-1) = m := ⟨max n (-1), by omega, by omega, rfl⟩
    have hs : st.arm' n = { st with armed := m, down := n == 0 } := by unfold DSt.arm'; rw [if_neg (by simp [hd]), hmx]
    have HS := hid hs
    have HB := hid (show -1 ≤ m ∧ m ≤ 9223372036854775807 by omega)
    clear hs hmx hn
    rw [hd] at h3
    clear hd
    rcases (show n < -1 ∨ -1 ≤ n by omega) with hle | hle
    rotate_left
    · obtain rfl := hm1 hle
      clear hm1 hm2
      go_enter Try.func28, Try.ntmps28
      go_wp2
      go_end0
      refine ⟨rfl, ?_, ?_⟩
      · rw [HS.out]
        refine ⟨lv, wv, H.out.obj' ?_ ?_ HB.out⟩
        · exact Mod.set (S := fun k => k = p) (Mod.set (S := fun k => k = p) (Mod.refl _ _) (.inl rfl) _) (.inl rfl) _
        · exact (H.out.obj.set 2 _).set 3 _
      · exact Mod.set (S := fun k => k = p) (Mod.set (S := fun k => k = p) (Mod.refl _ _) (.inl rfl) _) (.inl rfl) _
    · obtain rfl := hm2 (by omega)
      clear hm1 hm2
      go_enter Try.func28, Try.ntmps28
      go_wp2
      all_goals
        go_end0
        refine ⟨rfl, ?_, ?_⟩
        · rw [HS.out]
          refine ⟨lv, wv, H.out.obj' ?_ ?_ HB.out⟩
          · exact Mod.set (S := fun k => k = p) (Mod.set (S := fun k => k = p) (Mod.refl _ _) (.inl rfl) _) (.inl rfl) _
          · exact (H.out.obj.set 2 _).set 3 _
        · exact Mod.set (S := fun k => k = p) (Mod.set (S := fun k => k = p) (Mod.refl _ _) (.inl rfl) _) (.inl rfl) _
end Go.Proofs.Ytdhhpnfdnoaihaa

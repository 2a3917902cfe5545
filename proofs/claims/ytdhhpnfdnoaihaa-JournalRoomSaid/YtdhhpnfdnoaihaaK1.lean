/- A journal is opened with nothing in it. -/
import Derived.Test.YtdhhpnfdnoaihaaJ7
namespace Go.Proofs.Ytdhhpnfdnoaihaa
open Go.RowKit

set_option maxRecDepth 100000 in
set_option maxHeartbeats 800000 in
theorem read0_any (w : World) (j p : Nat) (fr to en ct : Int) (hj : IsJ w j p fr to en ct) : Calls Try.prog 75 #[.pointer (some ⟨j, 0, none⟩), .int .i64 0] w fun e w' => e = .returned (.tuple #[.slice none 0 0, .int .i64 0]) ∧ w = w' := by
  obtain ⟨_, h1, _, _, _⟩ := hj.cells
  clear hj
  go_enter Try.func75, Try.ntmps75
  go_wp2
  refine wp_loop_rounds 1 ?_
  rw [rounds_succ]
  go_wp2
  go_ret2
  exact ⟨rfl, rfl⟩
def OPost (w0 w : World) (S : Nat → Prop) (p : Nat) (st : DSt) (to : Nat) (e : Ending) (w' : World) : Prop :=
  ∃ j, e = .returned (.tuple #[.pointer (some ⟨j, 0, none⟩), .slice none 0 0, .int .i64 0]) ∧ IsJ w' j p 0 to 0 0 ∧ w.heap.size ≤ j ∧ Mod None w w' ∧ Live w0 w' S p st
set_option maxRecDepth 100000 in
set_option maxHeartbeats 1600000 in
theorem open0_any (w0 w : World) (S : Nat → Prop) (p : Nat) (st : DSt) (h : Live w0 w S p st) (to : Nat) (ht : to ≤ st.last.length) (hd : st.down = false) :
    Calls Try.prog 44 #[.pointer (some ⟨p, 0, none⟩), .int .i64 0, .int .i64 (to : Int), .int .i64 0, .int .i64 0] w (OPost w0 w S p st to) := by
  have hmost := h.ok.most
  have hto : ¬ (st.last.length : Int) < (to : Int) := by omega
  have hto0 : ¬ (to : Int) < 0 := by omega
  have hm1 : Mod None w (w.alloc (.cells #[.pointer (some ⟨p, 0, none⟩), .int .i64 0, .int .i64 (to : Int), .int .i64 0, .int .i64 0] 118)) := (Mod.refl _ _).alloc _
  obtain ⟨W, hW⟩ : ∃ W, W = w.alloc (.cells #[.pointer (some ⟨p, 0, none⟩), .int .i64 0, .int .i64 (to : Int), .int .i64 0, .int .i64 0] 118) := ⟨_, rfl⟩
  rw [← hW] at hm1
  have hj : IsJ W w.heap.size p 0 to 0 0 := by rw [hW]; exact Blk.new w 118 _
  have HS := hid (live_size h)
  have HR := hid (room_any hj (by omega))
  have HRM := hid (show ¬ (((to : Int) - 0) * 64) < 0 by omega)
  have HLV := hid (h.step hm1)
  have HJ := hid hj
  have HM := hid hm1
  have HD := hid hd
  clear hm1 hj h hd
  generalize hln : st.last.length = ln at *
  generalize hrm : (((to : Int) - 0) * 64) = rm at *
  have hrm0 : ¬ rm < 0 := HRM.out
  clear hrm
  go_enter Try.func44, Try.ntmps44
  go_wp2_with fail
  refine HS.out.mono ?_
  rintro e w1 ⟨rfl, rfl⟩
  go_wp2_with fail
  rw [← hW]
  clear hW
  refine HR.out.mono ?_
  rintro e w1 ⟨rfl, n, rfl⟩
  go_wp2_with fail
  have hdn := live_down (HLV.out.step (mod_drewN W n))
  rw [HD.out] at hdn
  refine hdn.mono ?_
  rintro e w1 ⟨rfl, rfl⟩
  go_wp2_with fail
  refine (read0_any (W.drewN n) w.heap.size p 0 to 0 0 HJ.out).mono ?_
  rintro e w1 ⟨rfl, rfl⟩
  go_wp2_with fail
  refine wp_loop_rounds 1 ?_
  rw [rounds_succ]
  go_wp2_with fail
  go_ret3
  exact ⟨_, rfl, HJ.out, Nat.le_refl _, HM.out.trans (mod_drewN W n), HLV.out.step (mod_drewN W n)⟩
end Go.Proofs.Ytdhhpnfdnoaihaa

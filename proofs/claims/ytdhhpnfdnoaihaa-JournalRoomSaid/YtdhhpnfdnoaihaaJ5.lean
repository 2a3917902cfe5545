/- A journal's Append: what is refused. -/
import Derived.Deep.Cut
import Derived.Test.YtdhhpnfdnoaihaaJ6
namespace Go.Proofs.Ytdhhpnfdnoaihaa
open Go.RowKit

theorem res47 (tmps : Array Value) (w : World) (rb : Nat) (v : Int) (h4 : tmps.getD 4 undef = .pointer (some ⟨rb, 0, none⟩)) (hc : w.cell? ⟨rb, 0, none⟩ = some (.int .i64 v)) : (results Try.f47 tmps).run Try.prog w = .ok (.int .i64 v) w := by
  have h4' : tmps[4]?.getD undef = .pointer (some ⟨rb, 0, none⟩) := by simpa using h4
  simp [results, h4', hc, go_sem]
theorem ret47 {R : Ending → World → Prop} (tmps : Array Value) (w : World) (rb : Nat) (v : Int) (h4 : tmps.getD 4 undef = .pointer (some ⟨rb, 0, none⟩)) (hc : w.cell? ⟨rb, 0, none⟩ = some (.int .i64 v)) (h : R (.returned (.int .i64 v)) w) :
    bodyPostM Fence.wide 5 Try.prog Try.f47 R Exit.ret { tmps := tmps, defers := [] } w := ⟨_, res47 tmps w rb v h4 hc, h⟩
theorem ret47d {R : Ending → World → Prop} (tmps : Array Value) (w : World) (rb D : Nat) (v : Int) (hD : w.heap[D]? = some (.deferred (some []))) (h4 : tmps.getD 4 undef = .pointer (some ⟨rb, 0, none⟩)) (hc : w.cell? ⟨rb, 0, none⟩ = some (.int .i64 v))
    (h : R (.returned (.int .i64 v)) (w.putObj D (.deferred none))) :
    bodyPostM Fence.wide 5 Try.prog Try.f47 R Exit.ret { tmps := tmps, defers := [{ target := .collected D, args := #[] }] } w := by
  refine ⟨by simp, .inl ⟨_, _, rfl, run_takeDeferred hD, _, res47 tmps _ rb v h4 ?_, h⟩⟩
  refine cell_kept hc (grownBy_putObj' _ D (.deferred none)) (fun r e => by cases e; exact ⟨_, hD, rfl⟩)
set_option maxRecDepth 100000 in
set_option maxHeartbeats 1600000 in
theorem append_long (w : World) (j : Nat) (a : Option Addr) (c : Nat) (n : Nat) (hl : 1048576 < n) : Calls Try.prog 47 #[.pointer (some ⟨j, 0, none⟩), .slice a n c] w fun e w' => e = .returned (.int .i64 3) ∧ Mod None w w' := by
  have hlen : (1048576 : Int) < (n : Int) := by omega
  refine (callsIn_wide (n := 5)).1 (callsIn_of_wp_marks Try.func47 rfl trivial (wpIn_wide.2 ?_))
  simp only [Try.ntmps47, List.size_toArray, List.length_cons, List.length_nil, Nat.reduceAdd, Nat.reduceSub, Array.replicate_succ, Array.replicate_zero, List.push_toArray, List.append_toArray, List.nil_append, List.cons_append]
  go_wp2_with fail
  refine ret47 _ _ (w.heap.size + 1) 3 rfl ?_ ⟨rfl, ((Mod.refl _ _).alloc _).alloc _⟩
  simp
theorem room_quiet {w : World} {j p : Nat} {fr to en ct : Int} (h : IsJ w j p fr to en ct) (hf : 0 ≤ fr ∧ fr ≤ to ∧ to ≤ 65536) (n : Nat) : Calls Try.prog 74 #[.pointer (some ⟨j, 0, none⟩)] (w.drewN n) fun e w'' => e = .returned (.int .i64 ((to - fr) * 64)) ∧ ∃ m, w'' = w.drewN m :=
  (room_any (w := w.drewN n) h hf).mono fun _ _ ⟨he, m, hm⟩ => ⟨he, n + m, by rw [hm]; simp [World.drewN, Nat.add_assoc]⟩
set_option maxRecDepth 100000 in
set_option maxHeartbeats 1600000 in
theorem append_full (w : World) (j p : Nat) (fr to en ct : Int) (hj : IsJ w j p fr to en ct) (a : Option Addr) (c n : Nat) (hf : 0 ≤ fr ∧ fr ≤ to ∧ to ≤ 65536) (he : 0 ≤ en ∧ en ≤ (to - fr) * 64)
    (hl : n ≤ 1048576) (hr : (to - fr) * 64 - en < (n : Int) + 16) : Calls Try.prog 47 #[.pointer (some ⟨j, 0, none⟩), .slice a n c] w fun e w' => e = .returned (.int .i64 51) ∧ Mod None w w' := by
  have hlen : ¬ (1048576 : Int) < (n : Int) := by omega
  have hlt : (to - fr) * 64 - en < (n : Int) + 16 := hr
  have hw1 : IntKind.i64.wrap ((to - fr) * 64 - en) = (to - fr) * 64 - en := wrap_in _ (by omega)
  have hm0 : Mod None w ((w.alloc (.cells #[.pointer (some ⟨j, 0, none⟩)] 62)).alloc (.cells #[.int .i64 0] 40)) := ((Mod.refl _ _).alloc _).alloc _
  obtain ⟨W, hW⟩ : ∃ W, W = (w.alloc (.cells #[.pointer (some ⟨j, 0, none⟩)] 62)).alloc (.cells #[.int .i64 0] 40) := ⟨_, rfl⟩
  rw [← hW] at hm0
  have hjw : IsJ W j p fr to en ct := hm0.blk hj (fun h => h)
  obtain ⟨_, _, _, h3, _⟩ := hjw.cells
  have hbx : Blk W w.heap.size 62 [.pointer (some ⟨j, 0, none⟩)] := by rw [hW]; exact (Blk.new w 62 _).alloc _
  have hrb : Blk W (w.heap.size + 1) 40 [.int .i64 0] := by
    have := Blk.new (w.alloc (.cells #[.pointer (some ⟨j, 0, none⟩)] 62)) 40 #[.int .i64 0]
    simp only [World.size_alloc] at this
    rw [hW]; exact this
  have hbx0 : W.cell? ⟨w.heap.size, 0, none⟩ = some (.pointer (some ⟨j, 0, none⟩)) := hbx.is rfl
  have hrb0 : W.cell? ⟨w.heap.size + 1, 0, none⟩ = some (.int .i64 0) := hrb.is rfl
  have hfz := hrb.free 0
  have HM := hid hm0
  have HRB := hid hrb
  have HQ := hid (fun m => room_quiet hjw hf m)
  generalize hR : (to - fr) * 64 = R at *
  clear hR hf he hbx hrb hjw hj hm0 hr hl
  refine (callsIn_wide (n := 5)).1 (callsIn_of_wp_marks Try.func47 rfl trivial (wpIn_wide.2 ?_))
  simp only [Try.ntmps47, List.size_toArray, List.length_cons, List.length_nil, Nat.reduceAdd, Nat.reduceSub, Array.replicate_succ, Array.replicate_zero, List.push_toArray, List.append_toArray, List.nil_append, List.cons_append]
  go_wp2_with fail
  rw [← hW]
  clear hW
  go_quiet (first | (go_at_call 74; exact HQ.out _))
  go_wp2_with fail
  refine ret47 _ _ (w.heap.size + 1) 51 rfl ?_ ⟨rfl, ?_⟩
  · have h : Blk (W.drewN nq) (w.heap.size + 1) 40 [.int .i64 0] := HRB.out
    exact (h.set 0 (.int .i64 51)).is rfl
  · exact (HM.out.trans (mod_drewN W nq)).set (.inr (Nat.le_succ _)) _
end Go.Proofs.Ytdhhpnfdnoaihaa

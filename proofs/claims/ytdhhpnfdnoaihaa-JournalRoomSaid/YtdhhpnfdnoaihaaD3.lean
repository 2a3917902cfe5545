/- disk.New. -/
import Derived.Test.YtdhhpnfdnoaihaaD2
namespace Go.Proofs.Ytdhhpnfdnoaihaa
open Go.RowKit

def DSt.new (n : Nat) : DSt := { last := List.replicate n zeros64, waits := [], armed := -1, down := false }
theorem lastC_replicate (n : Nat) : lastC (List.replicate n zeros64) = List.replicate (n * 64) (B 0) := by
  induction n with
  | zero => rfl
  | succ n ih =>
    rw [List.replicate_succ, lastC, List.flatMap_cons, show List.flatMap sC (List.replicate n zeros64) = lastC (List.replicate n zeros64) from rfl, ih]
    rw [show sC zeros64 = List.replicate 64 (B 0) from List.map_replicate, List.replicate_append_replicate]
    congr 1; omega
theorem repl_at (m : Nat) (hm : 0 < m) (j : Nat) : ((List.replicate m (B 0)).toArray)[j % m]! = B 0 := by
  have : j % m < m := Nat.mod_lt _ hm
  simp [this]
theorem made_zeros (n : Nat) : (madeCells (Agg (sC zeros64)).cells (n * 64)).toList = lastC (List.replicate n zeros64) := by
  rw [lastC_replicate, show (Agg (sC zeros64)).cells = (List.replicate 64 (B 0)).toArray from rfl]
  unfold madeCells
  apply List.ext_getElem?
  intro i
  by_cases hi : i < n * 64
  · rw [List.getElem?_replicate, if_pos hi]
    simp only [Array.toList_map, Array.toList_range, List.getElem?_map, List.getElem?_range hi, Option.map_some]
    rw [show ((List.replicate 64 (B 0)).toArray).size = 64 from by rw [List.size_toArray, List.length_replicate], repl_at 64 (by omega)]
  · rw [List.getElem?_eq_none (by simp; omega), List.getElem?_eq_none (by simp; omega)]
theorem DSt.new_ok (n : Nat) (h1 : 1 ≤ n) (h2 : n ≤ 65536) : (DSt.new n).Ok where
  one := by simpa [DSt.new] using h1
  most := by simpa [DSt.new] using h2
  sec := by intro s hs; simp [DSt.new] at hs; rw [hs.2]; decide
  wait := by intro x hx; simp [DSt.new] at hx
  arm := by simp [DSt.new]
theorem d_und99 : Try.prog.underlying 99 = some (.slice 105) := by kernel_rfl
theorem d_info105 : (Try.prog.info? 105).map (fun i => (i.zero, i.size, i.bytes)) = some (some (Agg (sC zeros64)), 64, 64) := by kernel_rfl
/-- a new disk: its blocks are all new -/
def NewPost (n : Nat) (w : World) (e : Ending) (w' : World) : Prop :=
  ∃ p S, e = .returned (.pointer (some ⟨p, 0, none⟩)) ∧ IsDisk w' S p (DSt.new n) ∧ Mod None w w' ∧ ∀ k, S k → w.heap.size ≤ k
theorem new_end {w w1 : World} {n : Nat} (h1 : 1 ≤ n) (h2 : n ≤ 65536) (ho : w1.ownsRow 0 105 64 (.slice (some ⟨w.heap.size, 0, none⟩) n n) n (lastC (List.replicate n zeros64))) (hg : w.grownBy w1 none) :
    NewPost n w (.returned (.pointer (some ⟨w1.heap.size, 0, none⟩))) (w1.alloc (.cells #[.slice (some ⟨w.heap.size, 0, none⟩) n n, .slice none 0 0, .int .i64 (-1), .bool false] 102)) := by
  have hlt : w.heap.size < w1.heap.size := (ho.lt _ rfl).2
  have hm : Mod None w w1 := grown_mod hg (fun _ h => by cases h)
  have hm2 : Mod None w1 (w1.alloc (.cells #[.slice (some ⟨w.heap.size, 0, none⟩) n n, .slice none 0 0, .int .i64 (-1), .bool false] 102)) := (Mod.refl _ _).alloc _
  refine ⟨_, fun k => w.heap.size ≤ k ∧ k ≤ w1.heap.size, rfl, ⟨_, _, ⟨Blk.new _ _ _, ⟨by omega, Nat.le_refl _⟩, ?_, ?_, ?_, ?_, ?_, DSt.new_ok n h1 h2, ?_⟩⟩, hm.trans hm2, fun k hk => hk.1⟩
  · have : OwnR w1 (fun k => w.heap.size ≤ k ∧ k ≤ w1.heap.size) 105 64 (.slice (some ⟨w.heap.size, 0, none⟩) n n) n (lastC (List.replicate n zeros64)) := ⟨ho, fun g hg => by simp [Value.ownBlock] at hg; omega⟩
    have := this.kept hm2 (fun _ _ h => h) (fun _ h => h)
    simpa [DSt.new] using this
  · exact ⟨World.ownsRow_nil _ _ _ _, fun g hg => by cases hg⟩
  · intro e; simp [Value.ownBlock] at e; omega
  · intro e; cases e
  · intro g _ e; cases e
  · intro k hk; simp; omega
set_option maxRecDepth 100000 in
set_option maxHeartbeats 400000 in
theorem new_any (w : World) (s : Int) (n : Nat) (hn : (n : Int) = min (max s 1) 65536) :
    Calls Try.prog 26 #[.int .i64 s] w (NewPost n w) := by
  have h1 : 1 ≤ n ∧ n ≤ 65536 := by omega
  obtain ⟨i, hi, hz, hsz, hby⟩ := info_parts d_info105
  have hmm : (if 65536 < if s < 1 then 1 else s then 65536 else if s < 1 then 1 else s) = (n : Int) := by
    by_cases h : s < 1
    · rw [if_pos h, if_neg (by omega)]; omega
    · rw [if_neg h]
      by_cases h' : 65536 < s
      · rw [if_pos h']; omega
      · rw [if_neg h']; omega
  have HN := hid hmm
  clear hmm hn
  go_enter Try.func26, Try.ntmps26
  go_wp2_with (at_make; refine wpList_make_full _ rfl (.tmp 5) (.tmp 5) 99 rfl 0 105 i (Agg (sC zeros64)) 64 d_und99 hi hz hsz .i64 .i64 _ _ n rfl rfl HN.out HN.out (by rw [hby]; omega) (by unfold maxLen; omega) (Nat.zero_le _) ?_; intro w1 hown hgr; rw [made_zeros] at hown; have HO := hid hown; have HG := hid hgr; clear hown hgr)
  all_goals
    go_ret
    exact new_end h1.1 h1.2 HO.out HG.out
end Go.Proofs.Ytdhhpnfdnoaihaa

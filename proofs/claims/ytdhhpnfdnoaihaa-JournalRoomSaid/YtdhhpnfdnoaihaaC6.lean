/- The contract of the matrix's square. -/
import Derived.Test.YtdhhpnfdnoaihaaC5
namespace Go.Proofs.Ytdhhpnfdnoaihaa
open Go.RowKit

/-- block mb is the matrix of f; its first k columns alone -/
def Cols (f : BitVec 32 → BitVec 32) (k : Nat) (cs : List Value) : Prop := cs.length = 32 ∧ (∀ v ∈ cs, v.oneCell' = true) ∧ ∀ i, i < k → cs[i]? = some (U32 (f (1#32 <<< i)))
def Mat (w : World) (mb : Nat) (f : BitVec 32 → BitVec 32) : Prop := ∃ cs, Blk w mb 97 cs ∧ Cols f 32 cs
theorem Cols.set {f : BitVec 32 → BitVec 32} {k : Nat} {cs : List Value} (h : Cols f k cs) (hk : k < 32) : Cols f (k + 1) (cs.set k (U32 (f (1#32 <<< k)))) := by
  obtain ⟨h1, h2, h3⟩ := h
  refine ⟨by simpa using h1, fun v hv => ?_, fun i hi => ?_⟩
  · rcases List.mem_or_eq_of_mem_set hv with hv | rfl
    · exact h2 v hv
    · rfl
  · rw [List.getElem?_set]
    by_cases e : k = i
    · subst e; simp [h1, hk]
    · rw [if_neg e]; exact h3 i (by omega)
theorem Mat.cells {w : World} {mb : Nat} {f : BitVec 32 → BitVec 32} (h : Mat w mb f) : ∀ i, i < 32 → w.cell? ⟨mb, i, none⟩ = some (U32 (f (1#32 <<< i))) := by
  obtain ⟨cs, hb, _, _, hc⟩ := h
  intro i hi
  exact hb.is (hc i hi)
def SqPost (mb : Nat) (f : BitVec 32 → BitVec 32) (w : World) (e : Ending) (w' : World) : Prop :=
  e = .returned (.tuple #[]) ∧ Mat w' mb (fun x => f (f x)) ∧ Mod (· = mb) w w'

def sqRel (mb ob : Nat) (f : BitVec 32 → BitVec 32) (w wr : World) (k : Nat) : Prop :=
  Mat wr mb f ∧ Mod None w wr ∧ ∃ cs, Blk wr ob 97 cs ∧ Cols (fun x => f (f x)) k cs
theorem sq_cells {mb ob : Nat} {f : BitVec 32 → BitVec 32} {w wr : World} {k : Nat} (h : sqRel mb ob f w wr k) (hk : k < 32) :
    (∃ x, wr.cell? ⟨ob, k, none⟩ = some x) ∧ wr.frozen? ⟨ob, k, none⟩ = false := by
  obtain ⟨_, _, cs, hb, h1, _⟩ := h
  exact ⟨⟨_, hb.cellAt k (by omega)⟩, hb.free k⟩
theorem sq_step {mb : Nat} {f : BitVec 32 → BitVec 32} {w wr : World} {k : Nat} (h : sqRel mb w.heap.size f w wr k) (hk : k < 32) (hm : mb < w.heap.size) :
    sqRel mb w.heap.size f w (wr.setCell ⟨w.heap.size, k, none⟩ (.int .u32 ((f (f (1#32 <<< k))).toNat : Int))) (k + 1) := by
  obtain ⟨⟨ms, hmb, hmc⟩, hmod, cs, hb, hc⟩ := h
  exact ⟨⟨ms, hmb.set_other (by simp; omega) _, hmc⟩, hmod.set (.inr (Nat.le_refl _)) _, _, hb.set k _, hc.set hk⟩

theorem und97 : Try.prog.underlying 97 = some (.array 32 22) := by kernel_rfl
theorem size97 : (Try.prog.info? 97).map (·.size) = some 32 := by kernel_rfl

set_option maxHeartbeats 400000 in
theorem square_any (mb : Nat) (f : BitVec 32 → BitVec 32) (hf : PCrc.Lin f) (w : World) (hm : Mat w mb f) :
    Calls Try.prog 64 #[.pointer (some ⟨mb, 0, none⟩)] w (SqPost mb f w) := by
  have hlt : mb < w.heap.size := by obtain ⟨_, h, _⟩ := hm; exact h.lt
  go_enter Try.func64, Try.ntmps64
  go_wp2
  generalize hw1 : w.alloc _ = w1
  have h0 : sqRel mb w.heap.size f w w1 0 := by
    subst hw1
    obtain ⟨ms, hmb, hmc⟩ := hm
    exact ⟨⟨ms, hmb.alloc _, hmc⟩, (Mod.refl _ _).alloc _, _, Blk.new _ _ _, rfl, by intro v hv; simp at hv; subst hv; rfl, fun i hi => by omega⟩
  clear hw1 hm
  go_loopw [4] (fun i wr => ∃ k : Nat, k ≤ 32 ∧ i = .int .i64 k ∧ sqRel mb w.heap.size f w wr k) (fun i _ => 32 - (intOf i).toNat)
  case atStart => exact ⟨0, by omega, rfl, h0⟩
  case round =>
    obtain ⟨k, hk, rfl, hr⟩ := hrel
    clear h0
    by_cases hlt2 : k < 32
    · have hcell := hr.1.cells k hlt2
      obtain ⟨⟨ox, hox⟩, hof⟩ := sq_cells hr hlt2
      have HS := hid (sq_step hr hlt2 hlt)
      have HM := hid hr.1.cells
      generalize hy : f (1#32 <<< k) = y at hcell HS
      have HY := hid hy
      clear hy hr
      unfold U32 at hcell
      go_wp2_with (go_at_call 63; refine (times_any mb f hf y _ HM.out).mono ?_; rintro e w' ⟨rfl, rfl⟩)
      go_roundw
      case rel => exact ⟨k + 1, by omega, by go_num, HS.out⟩
      case measure => simp [intOf]; omega
    · obtain rfl : k = 32 := by omega
      obtain ⟨⟨ms, hmb, hmc⟩, hmod, cs, hb, hc⟩ := hr
      have HB := hid hb
      have HM := hid hmb
      have HC := hid hc
      have HMC := hid hmc
      have HMD := hid hmod
      clear hb hmb hc hmc hmod
      go_wp2_with (first
        | (refine wpList_load_row rfl 97 (.tmp 2) rfl w.heap.size rfl 97 cs.toArray (0, 0) _ HB.out und97 rfl (by rw [size97, List.size_toArray, HC.out.1]) ?_)
        | (refine wpList_store_row rfl 97 (.tmp 19) (.tmp 18) rfl mb cs.toArray rfl rfl 97 ms.toArray HM.out (by rw [size97, List.size_toArray, HC.out.1]) (by rw [List.size_toArray, List.size_toArray, HC.out.1, HMC.out.1]) (by simpa using HC.out.2.1) ?_))
      go_end0
      exact ⟨rfl, ⟨_, HM.out.row _, by simpa using HC.out⟩, Mod.row (S := fun k => k = mb) (g := mb) (HMD.out.mono (fun _ _ h => h.elim)) (.inl rfl) _⟩
end Go.Proofs.Ytdhhpnfdnoaihaa

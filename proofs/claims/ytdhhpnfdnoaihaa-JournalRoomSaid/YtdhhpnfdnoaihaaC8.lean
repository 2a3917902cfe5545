/- awake of layer 2. -/
import Derived.Lib.SlBytesConst
import Derived.Test.YtdhhpnfdnoaihaaC7
namespace Go.Proofs.Ytdhhpnfdnoaihaa
open Go.RowKit

theorem und27 : Try.prog.underlying 27 = some (.slice 5) := by kernel_rfl
theorem und5 : Try.prog.underlying 5 = some (.int .u8) := by kernel_rfl
theorem csum9 : ((csum [49, 50, 51, 52, 53, 54, 55, 56, 57]).toNat : Int) = 3421780262 := by decide +kernel
theorem join9 : ((PCrc.pow 5 (csum [49, 50, 51, 52]) ^^^ csum [53, 54, 55, 56, 57]).toNat : Int) = 3421780262 := by decide +kernel
theorem sum_nil (w : World) : Calls Try.prog 24 #[.slice none 0 0] w fun e w' => e = .returned (.int .u32 0) ∧ w = w' :=
  (sum_any none 0 [] w (.inl rfl) (by simp)).mono fun e w' ⟨h, h'⟩ => ⟨h, h'⟩
theorem cell_new (W : World) (C : Array Value) (t : TypeId) (fr : Nat × Nat) (i : Nat) : (W.alloc (.cells C t fr)).cell? ⟨W.heap.size, i, none⟩ = C[i]? := by
  have := heap_alloc_new W (.cells C t fr)
  unfold World.cell?; rw [this]; rfl
theorem bytes_const (w : World) (C : Array Value) (n c p : Nat) (hp : p = w.heap.size) : (convert 27 27 (.slice (some ⟨p, 0, none⟩) n c)).run Try.prog (w.alloc (.cells C 5)) = .ok (.slice (some ⟨p, 0, none⟩) n c) (w.alloc (.cells C 5 (C.size, C.size + 1))) := by
  subst hp; exact Lib.run_convert_bytes_const w 27 5 C n c und27 und5
/-- a sum of one part that the text spells out -/
theorem sum_lit (W : World) (C : Array Value) (l : List UInt8) (hC : C = (l.map B).toArray) (n : Nat) (hn : n = l.length) (fr : Nat × Nat) (p q : Nat) (hp : p = W.heap.size) (hq : q = W.heap.size + 1)
    (v : Int) (hv : ((csum l).toNat : Int) = v) (hl : l.length ≤ 100) :
    Calls Try.prog 24 #[.slice (some ⟨q, 0, none⟩) 1 1] ((W.alloc (.cells C 5 fr)).alloc (.cells #[.slice (some ⟨p, 0, none⟩) n n] 27))
      fun e w' => e = .returned (.int .u32 v) ∧ (W.alloc (.cells C 5 fr)).alloc (.cells #[.slice (some ⟨p, 0, none⟩) n n] 27) = w' := by
  subst hp hq hC hn
  have h1 : ∀ i, ((W.alloc (.cells (l.map B).toArray 5 fr)).alloc (.cells #[.slice (some ⟨W.heap.size, 0, none⟩) l.length l.length] 27)).cell? ⟨W.heap.size, i, none⟩ = (l.map B)[i]? := by
    intro i
    rw [World.cell?_alloc_old _ _ _ (by simp)]
    rw [cell_new]; simp
  have h2 : ((W.alloc (.cells (l.map B).toArray 5 fr)).alloc (.cells #[.slice (some ⟨W.heap.size, 0, none⟩) l.length l.length] 27)).cell? ⟨W.heap.size + 1, 0, none⟩ = some (.slice (some ⟨W.heap.size, 0, none⟩) l.length l.length) := by
    rw [World.cell?_alloc_at _ _ _ _ (by simp)]; rfl
  refine (sum_any (some ⟨W.heap.size + 1, 0, none⟩) 1 [l] _ (.inr ⟨_, 0, rfl, fun i hi => ?_⟩) (by simp)).mono fun e w' ⟨h, h'⟩ => ⟨by rw [h]; simp only [U32, List.flatten_cons, List.flatten_nil, List.append_nil, hv], h'⟩
  obtain rfl : i = 0 := by simpa using hi
  exact ⟨_, h2, _, _, rfl, .inr ⟨_, 0, rfl, fun i hi => by rw [Nat.zero_add]; exact h1 i⟩, by show l.length ≤ _; omega⟩
theorem join_lit (w : World) :
    Calls Try.prog 25 #[.int .u32 ((csum [49, 50, 51, 52]).toNat : Int), .int .u32 ((csum [53, 54, 55, 56, 57]).toNat : Int), .int .i64 5] w fun e w' => e = .returned (.int .u32 3421780262) ∧ Mod None w w' :=
  (join_any _ _ 5 (by omega) w).mono fun e w' ⟨h, h'⟩ => ⟨by rw [h]; unfold U32; rw [join9], h'⟩

set_option maxRecDepth 100000 in
set_option maxHeartbeats 800000 in
theorem awake2_any (w : World) :
    Calls Try.prog 20 #[] w fun e w' => e = .returned (.bool true) ∧ Mod None w w' := by
  have kc := bytes_const
  go_enter Try.func20, Try.ntmps20
  go_wp2_with fail
  refine (sum_lit _ _ [49, 50, 51, 52, 53, 54, 55, 56, 57] rfl _ rfl _ _ _ (by simp) (by simp) _ csum9 (by decide)).mono ?_
  rintro e w' ⟨rfl, rfl⟩
  go_wp2_with fail
  refine (sum_nil _).mono ?_
  rintro e w' ⟨rfl, rfl⟩
  go_wp2_with fail
  refine (sum_lit _ _ [49, 50, 51, 52] rfl _ rfl _ _ _ (by simp) (by simp) _ rfl (by decide)).mono ?_
  rintro e w' ⟨rfl, rfl⟩
  go_wp2_with fail
  refine (sum_lit _ _ [53, 54, 55, 56, 57] rfl _ rfl _ _ _ (by simp) (by simp) _ rfl (by decide)).mono ?_
  rintro e w' ⟨rfl, rfl⟩
  go_wp2_with fail
  refine (join_lit _).mono ?_
  rintro e w' ⟨rfl, hm⟩
  have HM := hid hm
  clear hm
  go_wp2_with fail
  go_ret
  exact ⟨rfl, Mod.trans (((((((Mod.refl _ _).alloc _).alloc _).alloc _).alloc _).alloc _).alloc _) HM.out⟩
end Go.Proofs.Ytdhhpnfdnoaihaa

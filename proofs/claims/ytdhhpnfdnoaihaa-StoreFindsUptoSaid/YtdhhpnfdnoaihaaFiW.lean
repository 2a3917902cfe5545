import Derived.ShutString
import Derived.Test.YtdhhpnfdnoaihaaRows
import Derived.Test.YtdhhpnfdnoaihaaY8
/-! T1 -/
/- Rows of changes, of the program's and of the document's; few, batch. -/
namespace Go.Proofs.Ytdhhpnfdnoaihaa
open Go.RowKit

theorem s_und73 : Try.prog.underlying 73 = some (.slice 86) := by kernel_rfl
theorem s_info86 : (Try.prog.info? 86).map (fun i => (i.zero, i.size, i.bytes)) = some (some chZ, 3, 40) := by kernel_rfl
/-- v is the row L of type t, made since w -/
structure CRow (t : TypeId) (w wr : World) (v : Value) (L : List Ch) : Prop where
  own : wr.ownsRow 0 t 3 v L.length (rowC L)
  mod : Mod None w wr
  new : ∀ g, v.ownBlock = some g → w.heap.size ≤ g
section
variable {t : TypeId} {w wr w' : World} {v : Value} {L : List Ch}
theorem CRow.nil (t : TypeId) (w : World) : CRow t w w (.slice none 0 0) [] := ⟨World.ownsRow_nil _ _ _ _, Mod.refl _ _, fun g hg => by cases hg⟩
theorem CRow.keep (h : CRow t w wr v L) (hm : Mod None wr w') : CRow t w w' v L :=
  ⟨((show OwnR wr (fun _ => True) t 3 v L.length (rowC L) from ⟨h.own, fun _ _ => trivial⟩).kept hm (fun _ _ e => e) (fun _ h => h)).1, h.mod.trans hm, h.new⟩
theorem CRow.shape (h : CRow t w wr v L) : ∃ a c, v = .slice a L.length c ∧ RdV wr a (rowC L) := by
  have h1 : OwnR wr (fun _ => True) t 3 v L.length (rowC L) := ⟨h.own, fun _ _ => trivial⟩
  obtain ⟨a, c, e, _⟩ := h1.shape
  exact ⟨a, c, e, h1.rdv e⟩
/-- one more -/
theorem CRow.snoc {W w3 : World} {x : Ch} {va : Option Addr} {vc : Nat} (h : CRow t w wr v L) (hm : Mod None wr W) (g2 : w3.ownsRow 0 t 3 (.slice va (L.length + 1) vc) (L.length + 1) (rowC L ++ chC x)) (g3 : Mod (fun k => v.ownBlock = some k) W w3)
    (g4 : ∀ g, (Value.slice va (L.length + 1) vc).ownBlock = some g → v.ownBlock = some g ∨ (W.heap.size ≤ g ∧ g < w3.heap.size)) : CRow t w w3 (.slice va (L ++ [x]).length vc) (L ++ [x]) := by
  have e : (L ++ [x]).length = L.length + 1 := by simp
  have e2 : rowC (L ++ [x]) = rowC L ++ chC x := by rw [rowC_append]; simp [rowC]
  refine ⟨by rw [e, e2]; exact g2, (h.mod.trans hm).then g3 (fun k hk hv => by have := h.new k hv; omega), fun g hg => ?_⟩
  rw [e] at hg
  rcases g4 g hg with h' | h'
  · exact h.new g h'
  · exact Nat.le_trans (h.mod.trans hm).size h'.1
end
theorem one_src (W : World) (t : TypeId) (x : Ch) : RdV (W.alloc (.cells #[Str x.key, Str x.val, .bool x.gone] t)) (some ⟨W.heap.size, 0, none⟩) (chC x) :=
  (Blk.new W t _).rdv 0 (fun i _ => by rw [Nat.zero_add]; rfl)
def CPostR (t : TypeId) (w : World) (L : List Ch) (e : Ending) (w' : World) : Prop := ∃ a c, e = .returned (.slice a L.length c) ∧ CRow t w w' (.slice a L.length c) L
theorem few_any (w : World) (a : Option Addr) (n c : Nat) : Calls Try.prog 52 #[.slice a n c] w fun e w' => e = .returned (.bool (decide (n ≤ 300))) ∧ w = w' := by
  by_cases h : n ≤ 300
  · have h' : (n : Int) ≤ 300 := by omega
    rw [decide_eq_true h]
    go_enter Try.func52, Try.ntmps52
    go_wp2
    go_ret
    exact ⟨rfl, rfl⟩
  · have h' : ¬ (n : Int) ≤ 300 := by omega
    rw [decide_eq_false h]
    go_enter Try.func52, Try.ntmps52
    go_wp2
    go_ret
    exact ⟨rfl, rfl⟩
theorem take_succ_ch {l : List Ch} {k : Nat} (h : k < l.length) : l.take (k + 1) = l.take k ++ [nth l k] := by
  rw [List.take_add_one, List.getElem?_eq_getElem h, nth_at h]; rfl
theorem take_len_ch {l : List Ch} {k : Nat} (h : k ≤ l.length) : (l.take k).length = k := by rw [List.length_take]; omega
theorem held3 {w w' : World} {p0 p1 p2 : Addr} {x : Ch} (e1 : w.cell? p0 = some (Str x.key)) (e2 : w.cell? p1 = some (Str x.val)) (e3 : w.cell? p2 = some (.bool x.gone)) (hm : Mod None w w') : w'.cell? p0 = some (.string { data := x.key.toArray }) ∧ w'.cell? p1 = some (.string { data := x.val.toArray }) ∧ w'.cell? p2 = some (.bool x.gone) :=
  ⟨hm.cell0 e1, hm.cell0 e2, hm.cell0 e3⟩
section
variable {t : TypeId} {w wr : World} {v : Value} {L : List Ch} {k : Nat}
theorem CRow.own_at {w2 : World} (h : CRow t w wr v L) (hk : L.length = k) (hm : Mod None wr w2) (o : Obj) : (w2.alloc o).ownsRow 0 t 3 v k (rowC L) := by
  subst hk; exact (h.keep (hm.alloc o)).own
theorem CRow.snoc_at {w2 w3 : World} {x : Ch} {va : Option Addr} {vc : Nat} {o : Obj} (h : CRow t w wr v L) (hk : L.length = k) (hm : Mod None wr w2) (g2 : w3.ownsRow 0 t 3 (.slice va (k + 1) vc) (k + 1) (rowC L ++ chC x)) (g3 : Mod (fun k => v.ownBlock = some k) (w2.alloc o) w3)
    (g4 : ∀ g, (Value.slice va (k + 1) vc).ownBlock = some g → v.ownBlock = some g ∨ ((w2.alloc o).heap.size ≤ g ∧ g < w3.heap.size)) : CRow t w w3 (.slice va (k + 1) vc) (L ++ [x]) := by
  subst hk
  have := h.snoc (hm.alloc o) g2 g3 g4
  rw [show (L ++ [x]).length = L.length + 1 by simp] at this
  exact this
end
set_option maxRecDepth 100000 in
set_option maxHeartbeats 1600000 in
theorem batch_any (w : World) (a : Option Addr) (n c : Nat) (l : List Ch) (hn : n = l.length) (hr : RdV w a (rowC l)) (hfew : l.length ≤ 1000000) : Calls Try.prog 54 #[.slice a n c] w (CPostR 89 w l) := by
  have HR := hid hr
  have HN := hid hn
  have hn6 : n ≤ 1000000 := by omega
  clear hr hn hfew
  obtain ⟨it, hit, hz, hsz, hby⟩ := info_parts s_info89
  have HIX := hid (And.intro hit (And.intro hz (And.intro hsz hby)))
  clear hit hz hsz hby
  go_enter Try.func54, Try.ntmps54
  go_wp2_with fail
  go_loopw [3, 4] (fun v i wr => ∃ (k : Nat) (va : Option Addr) (vc : Nat), k ≤ n ∧ i = .int .i64 k ∧ v = .slice va k vc ∧ Hid (CRow 89 w wr (.slice va k vc) (l.take k))) (fun _ i _ => n - (intOf i).toNat)
  case atStart => exact ⟨0, none, 0, by omega, rfl, rfl, by rw [List.take_zero]; exact CRow.nil 89 w⟩
  case round =>
    obtain ⟨k, va, vc, hk, rfl, rfl, h1⟩ := hrel
    by_cases hlt : k < n
    · have hlt' : (k : Int) < (n : Int) := by omega
      have hkl : k < l.length := by have := HN.out; omega
      obtain ⟨b, o, rfl, e1, e2, e3⟩ := rd_ch HR.out hkl
      have HTS := hid (take_succ_ch hkl)
      have HTL := hid (take_len_ch (l := l) (k := k) (by omega))
      have HMC := hid h1.out.mod.drew
      generalize nth l k = x at *
      have HX := hid (fun w' hm => held3 (w' := w') e1 e2 e3 hm)
      clear e1 e2 e3
      generalize l.take k = L at *
      go_wp2_with fail
      refine wp_region_held_drew (S := fun w' => w'.cell? ⟨b, o + k * 3, none⟩ = some (.string { data := x.key.toArray }) ∧ w'.cell? ⟨b, o + k * 3 + 1, none⟩ = some (.string { data := x.val.toArray }) ∧ w'.cell? ⟨b, o + k * 3 + 2, none⟩ = some (.bool x.gone)) (by kernel_rfl) ?_ (fun hHeld => ?_)
      · exact HX.out _ HMC.out
      refine wpAnyH_take (i := 0) (oi := { dst := some 11, op := Op.move (Operand.tmp 3), type := 79, pos := "law.go:37", after := #[], guard := none }) (v := ?vo1_0) rfl (by kernel_rfl) (by kernel_rfl) (by kernel_rfl) (fun _ _ _ h => h) (Or.inl ⟨by rfl, ?yo1_0⟩) (by assumption) ?ro1_0
      case yo1_0 => (intro w hSw; (try dsimp only at hSw); go_simp; (try with_reducible rfl))
      try simp only [Act.put, List.setIfInBounds_toArray, List.set_cons_zero, List.set_cons_succ]
      refine wpAnyH_take (i := 1) (oi := { dst := some 12, op := Op.move (Operand.tmp 0), type := 73, pos := "law.go:37", after := #[], guard := none }) (v := ?vo2_1) rfl (by kernel_rfl) (by kernel_rfl) (by kernel_rfl) (fun _ _ _ h => h) (Or.inl ⟨by rfl, ?yo2_1⟩) (by assumption) ?ro2_1
      case yo2_1 => (intro w hSw; (try dsimp only at hSw); go_simp; (try with_reducible rfl))
      try simp only [Act.put, List.setIfInBounds_toArray, List.set_cons_zero, List.set_cons_succ]
      refine wpAnyH_take (i := 2) (oi := { dst := some 13, op := Op.move (Operand.tmp 4), type := 3, pos := "law.go:37", after := #[], guard := none }) (v := ?vo3_2) rfl (by kernel_rfl) (by kernel_rfl) (by kernel_rfl) (fun _ _ _ h => h) (Or.inl ⟨by rfl, ?yo3_2⟩) (by assumption) ?ro3_2
      case yo3_2 => (intro w hSw; (try dsimp only at hSw); go_simp; (try with_reducible rfl))
      try simp only [Act.put, List.setIfInBounds_toArray, List.set_cons_zero, List.set_cons_succ]
      refine wpAnyH_take (i := 3) (oi := { dst := some 14, op := Op.indexAddr 73 (Operand.tmp 12) (Operand.tmp 13), type := 0, pos := "law.go:37", after := #[{ on := 1, ground := Ground.data }, { on := 2, ground := Ground.data }], guard := none }) (v := ?vo4_3) rfl (by kernel_rfl) (by kernel_rfl) (by kernel_rfl) (fun _ _ _ h => h) (Or.inl ⟨by rfl, ?yo4_3⟩) (by assumption) ?ro4_3
      case yo4_3 => (intro w hSw; (try dsimp only at hSw); go_simp; (try with_reducible rfl))
      try simp only [Act.put, List.setIfInBounds_toArray, List.set_cons_zero, List.set_cons_succ]
      refine wpAnyH_take (i := 4) (oi := { dst := some 15, op := Op.fieldAddr 86 (Operand.tmp 14) 0, type := 0, pos := "law.go:37", after := #[{ on := 3, ground := Ground.data }], guard := none }) (v := ?vo5_4) rfl (by kernel_rfl) (by kernel_rfl) (by kernel_rfl) (fun _ _ _ h => h) (Or.inl ⟨by rfl, ?yo5_4⟩) (by assumption) ?ro5_4
      case yo5_4 => (intro w hSw; (try dsimp only at hSw); go_simp; (try with_reducible rfl))
      try simp only [Act.put, List.setIfInBounds_toArray, List.set_cons_zero, List.set_cons_succ]
      refine wpAnyH_take (i := 5) (oi := { dst := some 16, op := Op.load 9 (Operand.tmp 15), type := 9, pos := "law.go:37", after := #[{ on := 4, ground := Ground.data }], guard := none }) (v := ?vo6_5) rfl (by kernel_rfl) (by kernel_rfl) (by kernel_rfl) (fun _ _ _ h => h) (Or.inl ⟨by rfl, ?yo6_5⟩) (by assumption) ?ro6_5
      case yo6_5 => (intro w hSw; (try dsimp only at hSw); go_simp; (try with_reducible rfl))
      try simp only [Act.put, List.setIfInBounds_toArray, List.set_cons_zero, List.set_cons_succ]
      refine wpAnyH_take (i := 6) (oi := { dst := some 17, op := Op.move (Operand.tmp 0), type := 73, pos := "law.go:37", after := #[], guard := none }) (v := ?vo7_6) rfl (by kernel_rfl) (by kernel_rfl) (by kernel_rfl) (fun _ _ _ h => h) (Or.inl ⟨by rfl, ?yo7_6⟩) (by assumption) ?ro7_6
      case yo7_6 => (intro w hSw; (try dsimp only at hSw); go_simp; (try with_reducible rfl))
      try simp only [Act.put, List.setIfInBounds_toArray, List.set_cons_zero, List.set_cons_succ]
      refine wpAnyH_take (i := 7) (oi := { dst := some 18, op := Op.move (Operand.tmp 4), type := 3, pos := "law.go:37", after := #[], guard := none }) (v := ?vo8_7) rfl (by kernel_rfl) (by kernel_rfl) (by kernel_rfl) (fun _ _ _ h => h) (Or.inl ⟨by rfl, ?yo8_7⟩) (by assumption) ?ro8_7
      case yo8_7 => (intro w hSw; (try dsimp only at hSw); go_simp; (try with_reducible rfl))
      try simp only [Act.put, List.setIfInBounds_toArray, List.set_cons_zero, List.set_cons_succ]
      refine wpAnyH_take (i := 8) (oi := { dst := some 19, op := Op.indexAddr 73 (Operand.tmp 17) (Operand.tmp 18), type := 0, pos := "law.go:37", after := #[{ on := 6, ground := Ground.data }, { on := 7, ground := Ground.data }], guard := none }) (v := ?vo9_8) rfl (by kernel_rfl) (by kernel_rfl) (by kernel_rfl) (fun _ _ _ h => h) (Or.inl ⟨by rfl, ?yo9_8⟩) (by assumption) ?ro9_8
      case yo9_8 => (intro w hSw; (try dsimp only at hSw); go_simp; (try with_reducible rfl))
      try simp only [Act.put, List.setIfInBounds_toArray, List.set_cons_zero, List.set_cons_succ]
      refine wpAnyH_take (i := 9) (oi := { dst := some 20, op := Op.fieldAddr 86 (Operand.tmp 19) 1, type := 0, pos := "law.go:37", after := #[{ on := 8, ground := Ground.data }], guard := none }) (v := ?vo10_9) rfl (by kernel_rfl) (by kernel_rfl) (by kernel_rfl) (fun _ _ _ h => h) (Or.inl ⟨by rfl, ?yo10_9⟩) (by assumption) ?ro10_9
      case yo10_9 => (intro w hSw; (try dsimp only at hSw); go_simp; (try with_reducible rfl))
      try simp only [Act.put, List.setIfInBounds_toArray, List.set_cons_zero, List.set_cons_succ]
      refine wpAnyH_take (i := 10) (oi := { dst := some 21, op := Op.load 9 (Operand.tmp 20), type := 9, pos := "law.go:37", after := #[{ on := 9, ground := Ground.data }], guard := none }) (v := ?vo11_10) rfl (by kernel_rfl) (by kernel_rfl) (by kernel_rfl) (fun _ _ _ h => h) (Or.inl ⟨by rfl, ?yo11_10⟩) (by assumption) ?ro11_10
      case yo11_10 => (intro w hSw; (try dsimp only at hSw); go_simp; (try with_reducible rfl))
      try simp only [Act.put, List.setIfInBounds_toArray, List.set_cons_zero, List.set_cons_succ]
      refine wpAnyH_take (i := 11) (oi := { dst := some 22, op := Op.move (Operand.tmp 0), type := 73, pos := "law.go:37", after := #[], guard := none }) (v := ?vo12_11) rfl (by kernel_rfl) (by kernel_rfl) (by kernel_rfl) (fun _ _ _ h => h) (Or.inl ⟨by rfl, ?yo12_11⟩) (by assumption) ?ro12_11
      case yo12_11 => (intro w hSw; (try dsimp only at hSw); go_simp; (try with_reducible rfl))
      try simp only [Act.put, List.setIfInBounds_toArray, List.set_cons_zero, List.set_cons_succ]
      refine wpAnyH_take (i := 12) (oi := { dst := some 23, op := Op.move (Operand.tmp 4), type := 3, pos := "law.go:37", after := #[], guard := none }) (v := ?vo13_12) rfl (by kernel_rfl) (by kernel_rfl) (by kernel_rfl) (fun _ _ _ h => h) (Or.inl ⟨by rfl, ?yo13_12⟩) (by assumption) ?ro13_12
      case yo13_12 => (intro w hSw; (try dsimp only at hSw); go_simp; (try with_reducible rfl))
      try simp only [Act.put, List.setIfInBounds_toArray, List.set_cons_zero, List.set_cons_succ]
      refine wpAnyH_take (i := 13) (oi := { dst := some 24, op := Op.indexAddr 73 (Operand.tmp 22) (Operand.tmp 23), type := 0, pos := "law.go:37", after := #[{ on := 11, ground := Ground.data }, { on := 12, ground := Ground.data }], guard := none }) (v := ?vo14_13) rfl (by kernel_rfl) (by kernel_rfl) (by kernel_rfl) (fun _ _ _ h => h) (Or.inl ⟨by rfl, ?yo14_13⟩) (by assumption) ?ro14_13
      case yo14_13 => (intro w hSw; (try dsimp only at hSw); go_simp; (try with_reducible rfl))
      try simp only [Act.put, List.setIfInBounds_toArray, List.set_cons_zero, List.set_cons_succ]
      refine wpAnyH_take (i := 14) (oi := { dst := some 25, op := Op.fieldAddr 86 (Operand.tmp 24) 2, type := 0, pos := "law.go:37", after := #[{ on := 13, ground := Ground.data }], guard := none }) (v := ?vo15_14) rfl (by kernel_rfl) (by kernel_rfl) (by kernel_rfl) (fun _ _ _ h => h) (Or.inl ⟨by rfl, ?yo15_14⟩) (by assumption) ?ro15_14
      case yo15_14 => (intro w hSw; (try dsimp only at hSw); go_simp; (try with_reducible rfl))
      try simp only [Act.put, List.setIfInBounds_toArray, List.set_cons_zero, List.set_cons_succ]
      refine wpAnyH_take (i := 15) (oi := { dst := some 26, op := Op.load 4 (Operand.tmp 25), type := 4, pos := "law.go:37", after := #[{ on := 14, ground := Ground.data }], guard := none }) (v := ?vo16_15) rfl (by kernel_rfl) (by kernel_rfl) (by kernel_rfl) (fun _ _ _ h => h) (Or.inl ⟨by rfl, ?yo16_15⟩) (by assumption) ?ro16_15
      case yo16_15 => (intro w hSw; (try dsimp only at hSw); go_simp; (try with_reducible rfl))
      try simp only [Act.put, List.setIfInBounds_toArray, List.set_cons_zero, List.set_cons_succ]
      refine wpAnyH_take (i := 16) (oi := { dst := some 27, op := Op.build 89 #[(0, Operand.tmp 16), (1, Operand.tmp 21), (2, Operand.tmp 26)], type := 89, pos := "law.go:37", after := #[{ on := 5, ground := Ground.data }, { on := 10, ground := Ground.data }, { on := 15, ground := Ground.data }], guard := none }) (v := ?vo17_16) rfl (by kernel_rfl) (by kernel_rfl) (by kernel_rfl) (fun _ _ _ h => h) (Or.inl ⟨by rfl, ?yo17_16⟩) (by assumption) ?ro17_16
      case yo17_16 => (intro w hSw; (try dsimp only at hSw); go_simp; (try with_reducible rfl))
      try simp only [Act.put, List.setIfInBounds_toArray, List.set_cons_zero, List.set_cons_succ]
      refine wpAnyH_ready (rs := [17]) (by kernel_rfl) (by simp) ?_
      refine AllReadyH.cons (o := { dst := some 28, op := Op.buildSlice 79 1 #[(0, Operand.tmp 27)], type := 79, pos := "law.go:37", after := #[{ on := 16, ground := Ground.data }], guard := none }) rfl (fun K hK => ?_) AllReadyH.nil
      go_simp; have HMC := hid (h1.out.mod.alloc (.cells #[Str x.key, Str x.val, .bool x.gone] 89)).drew
      refine hK.out _ _ ?_ (fun hHeld => ?_)
      · exact HX.out _ HMC.out
      clear hK K
      try simp only [Act.put, List.setIfInBounds_toArray, List.set_cons_zero, List.set_cons_succ]
      refine wpAnyH_ready (rs := [18]) (by kernel_rfl) (by simp) ?_
      refine AllReadyH.cons (o := { dst := some 29, op := Op.call { callee := Callee.builtin Builtin.append, args := #[Operand.tmp 11, Operand.tmp 28], argTypes := #[79, 79] }, type := 79, pos := "law.go:37", after := #[{ on := 0, ground := Ground.data }, { on := 17, ground := Ground.data }], guard := none }) rfl (fun K hK => ?_) AllReadyH.nil
      refine wp_append_R (.tmp 11) (.tmp 28) 79 rfl 89 it chZ 3 40 s_und79 HIX.out.1 HIX.out.2.1 HIX.out.2.2.1 HIX.out.2.2.2 rfl (by decide) (.slice va k vc) k (rowC L) rfl (h1.out.own_at HTL.out (Mod.refl None wr) _) _ 1 1 (chC x) rfl rfl (one_src wr 89 x) (ch_ones x) (by unfold maxLen; omega) (by omega) ?_; intro va2 vc2 w3 g2 g3 g4; have HC := hid (h1.out.snoc_at (w2 := wr.drew) (o := .cells #[Str x.key, Str x.val, .bool x.gone] 89) HTL.out (Mod.refl None wr).drew g2.out g3.out g4.out); have HMC := hid HC.out.mod; clear g2 g3 g4
      refine hK.out _ _ ?_ (fun hHeld => ?_)
      · exact HX.out _ HMC.out
      clear hK K
      try simp only [Act.put, List.setIfInBounds_toArray, List.set_cons_zero, List.set_cons_succ]
      refine wpAnyH_take (i := 19) (oi := { dst := some 3, op := Op.assign (Operand.tmp 29), type := 79, pos := "law.go:37", after := #[{ on := 18, ground := Ground.data }, { on := 18, ground := Ground.chain }, { on := 0, ground := Ground.phase }, { on := 1, ground := Ground.phase }, { on := 2, ground := Ground.phase }, { on := 3, ground := Ground.phase }, { on := 4, ground := Ground.phase }, { on := 5, ground := Ground.phase }, { on := 6, ground := Ground.phase }, { on := 7, ground := Ground.phase }, { on := 8, ground := Ground.phase }, { on := 9, ground := Ground.phase }, { on := 10, ground := Ground.phase }, { on := 11, ground := Ground.phase }, { on := 12, ground := Ground.phase }, { on := 13, ground := Ground.phase }, { on := 14, ground := Ground.phase }, { on := 15, ground := Ground.phase }, { on := 16, ground := Ground.phase }, { on := 17, ground := Ground.phase }, { on := 18, ground := Ground.phase }], guard := none }) (v := ?vo18_19) rfl (by kernel_rfl) (by kernel_rfl) (by kernel_rfl) (fun _ _ _ h => h) (Or.inl ⟨by rfl, ?yo18_19⟩) (by assumption) ?ro18_19
      case yo18_19 => (intro w hSw; (try dsimp only at hSw); go_simp; (try with_reducible rfl))
      try simp only [Act.put, List.setIfInBounds_toArray, List.set_cons_zero, List.set_cons_succ]
      refine wpAnyH_done (by kernel_rfl) ?_ _
      go_wp2_with fail
      go_roundw
      case rel => exact ⟨k + 1, va2, vc2, by omega, by go_num, rfl, by rw [HTS.out]; exact HC.out⟩
      case measure => simp [intOf]; omega
    · obtain rfl : k = n := by omega
      have hlt' : ¬ (k : Int) < (k : Int) := by omega
      have HE := hid (show l.take k = l by rw [HN.out, List.take_length])
      rw [HE.out] at h1
      go_wp2_with fail
      go_ret
      exact ⟨va, vc, by rw [← HN.out]; rfl, by rw [← HN.out]; exact h1.out⟩
end Go.Proofs.Ytdhhpnfdnoaihaa

/-! T2 -/
/- What a store has, as the document's: pairs. -/
namespace Go.Proofs.Ytdhhpnfdnoaihaa
open Go.RowKit

theorem under_all (l : List Ch) : underL l [] = l := by
  unfold underL
  rw [List.filter_eq_self]
  intro x _; cases x.key <;> rfl
theorem CRow.since {t : TypeId} {w w1 wr : World} {v : Value} {L : List Ch} (h : CRow t w1 wr v L) (hm : Mod None w w1) : CRow t w wr v L := ⟨h.own, hm.trans h.mod, fun g hg => Nat.le_trans hm.size (h.new g hg)⟩
set_option maxRecDepth 100000 in
set_option maxHeartbeats 1600000 in
theorem pairs_any {w0 w : World} {T : Nat → Prop} {s p : Nat} {σ : SSt} (h : IsStore w0 w T s p σ) (hfew : σ.has.length ≤ 1000000) : Calls Try.prog 61 #[.pointer (some ⟨s, 0, none⟩)] w (CPostR 86 w σ.has) := by
  have HU := hid (is_under h [] hfew)
  rw [under_all] at HU
  generalize hl : σ.has = l at *
  clear h hl
  obtain ⟨it, hit, hz, hsz, hby⟩ := info_parts s_info86
  have HIX := hid (And.intro hit (And.intro hz (And.intro hsz hby)))
  clear hit hz hsz hby
  unfold Str at HU
  go_enter Try.func61, Try.ntmps61
  go_wp2_with fail
  refine HU.out.mono ?_
  rintro e w1 ⟨a, c, rfl, h1⟩
  have HM1 := hid h1.mod
  obtain ⟨ra, rc, re, hrd⟩ := h1.shape
  obtain ⟨rfl, rfl⟩ : a = ra ∧ c = rc := by injection re with e1 e2 e3; exact ⟨e1, e3⟩
  have HR := hid hrd
  clear re hrd h1 HU
  generalize hn : l.length = n at *
  have HN := hid hn.symm
  clear hn
  go_wp2_with fail
  go_loopw [3, 5] (fun v i wr => ∃ (k : Nat) (va : Option Addr) (vc : Nat), k ≤ n ∧ i = .int .i64 k ∧ v = .slice va k vc ∧ Hid (CRow 86 w1 wr (.slice va k vc) (l.take k))) (fun _ i _ => n - (intOf i).toNat)
  case atStart => exact ⟨0, none, 0, by omega, rfl, rfl, by rw [List.take_zero]; exact CRow.nil 86 w1⟩
  case round =>
    obtain ⟨k, va, vc, hk, rfl, rfl, h1⟩ := hrel
    by_cases hlt : k < n
    · have hlt' : (k : Int) < (n : Int) := by omega
      have hkl : k < l.length := by have := HN.out; omega
      obtain ⟨b, o, rfl, e1, e2, e3⟩ := rd_ch HR.out hkl
      have HTS := hid (take_succ_ch hkl)
      have HTL := hid (take_len_ch (l := l) (k := k) (by omega))
      have HMC := hid h1.out.mod.drew
      generalize nth l k = x at *
      have HX := hid (fun w' hm => held3 (w' := w') e1 e2 e3 hm)
      clear e1 e2 e3
      generalize l.take k = L at *
      go_wp2_with fail
      refine wp_region_held_drew (S := fun w' => w'.cell? ⟨b, o + k * 3, none⟩ = some (.string { data := x.key.toArray }) ∧ w'.cell? ⟨b, o + k * 3 + 1, none⟩ = some (.string { data := x.val.toArray }) ∧ w'.cell? ⟨b, o + k * 3 + 2, none⟩ = some (.bool x.gone)) (by kernel_rfl) ?_ (fun hHeld => ?_)
      · exact HX.out _ HMC.out
      refine wpAnyH_take (i := 0) (oi := { dst := some 14, op := Op.move (Operand.tmp 3), type := 73, pos := "law.go:47", after := #[], guard := none }) (v := ?vo1_0) rfl (by kernel_rfl) (by kernel_rfl) (by kernel_rfl) (fun _ _ _ h => h) (Or.inl ⟨by rfl, ?yo1_0⟩) (by assumption) ?ro1_0
      case yo1_0 => (intro w hSw; (try dsimp only at hSw); go_simp; (try with_reducible rfl))
      try simp only [Act.put, List.setIfInBounds_toArray, List.set_cons_zero, List.set_cons_succ]
      refine wpAnyH_take (i := 1) (oi := { dst := some 15, op := Op.move (Operand.tmp 4), type := 79, pos := "law.go:47", after := #[], guard := none }) (v := ?vo2_1) rfl (by kernel_rfl) (by kernel_rfl) (by kernel_rfl) (fun _ _ _ h => h) (Or.inl ⟨by rfl, ?yo2_1⟩) (by assumption) ?ro2_1
      case yo2_1 => (intro w hSw; (try dsimp only at hSw); go_simp; (try with_reducible rfl))
      try simp only [Act.put, List.setIfInBounds_toArray, List.set_cons_zero, List.set_cons_succ]
      refine wpAnyH_take (i := 2) (oi := { dst := some 16, op := Op.move (Operand.tmp 5), type := 3, pos := "law.go:47", after := #[], guard := none }) (v := ?vo3_2) rfl (by kernel_rfl) (by kernel_rfl) (by kernel_rfl) (fun _ _ _ h => h) (Or.inl ⟨by rfl, ?yo3_2⟩) (by assumption) ?ro3_2
      case yo3_2 => (intro w hSw; (try dsimp only at hSw); go_simp; (try with_reducible rfl))
      try simp only [Act.put, List.setIfInBounds_toArray, List.set_cons_zero, List.set_cons_succ]
      refine wpAnyH_take (i := 3) (oi := { dst := some 17, op := Op.indexAddr 79 (Operand.tmp 15) (Operand.tmp 16), type := 0, pos := "law.go:47", after := #[{ on := 1, ground := Ground.data }, { on := 2, ground := Ground.data }], guard := none }) (v := ?vo4_3) rfl (by kernel_rfl) (by kernel_rfl) (by kernel_rfl) (fun _ _ _ h => h) (Or.inl ⟨by rfl, ?yo4_3⟩) (by assumption) ?ro4_3
      case yo4_3 => (intro w hSw; (try dsimp only at hSw); go_simp; (try with_reducible rfl))
      try simp only [Act.put, List.setIfInBounds_toArray, List.set_cons_zero, List.set_cons_succ]
      refine wpAnyH_take (i := 4) (oi := { dst := some 18, op := Op.fieldAddr 89 (Operand.tmp 17) 0, type := 0, pos := "law.go:47", after := #[{ on := 3, ground := Ground.data }], guard := none }) (v := ?vo5_4) rfl (by kernel_rfl) (by kernel_rfl) (by kernel_rfl) (fun _ _ _ h => h) (Or.inl ⟨by rfl, ?yo5_4⟩) (by assumption) ?ro5_4
      case yo5_4 => (intro w hSw; (try dsimp only at hSw); go_simp; (try with_reducible rfl))
      try simp only [Act.put, List.setIfInBounds_toArray, List.set_cons_zero, List.set_cons_succ]
      refine wpAnyH_take (i := 5) (oi := { dst := some 19, op := Op.load 9 (Operand.tmp 18), type := 9, pos := "law.go:47", after := #[{ on := 4, ground := Ground.data }], guard := none }) (v := ?vo6_5) rfl (by kernel_rfl) (by kernel_rfl) (by kernel_rfl) (fun _ _ _ h => h) (Or.inl ⟨by rfl, ?yo6_5⟩) (by assumption) ?ro6_5
      case yo6_5 => (intro w hSw; (try dsimp only at hSw); go_simp; (try with_reducible rfl))
      try simp only [Act.put, List.setIfInBounds_toArray, List.set_cons_zero, List.set_cons_succ]
      refine wpAnyH_take (i := 6) (oi := { dst := some 20, op := Op.move (Operand.tmp 4), type := 79, pos := "law.go:47", after := #[], guard := none }) (v := ?vo7_6) rfl (by kernel_rfl) (by kernel_rfl) (by kernel_rfl) (fun _ _ _ h => h) (Or.inl ⟨by rfl, ?yo7_6⟩) (by assumption) ?ro7_6
      case yo7_6 => (intro w hSw; (try dsimp only at hSw); go_simp; (try with_reducible rfl))
      try simp only [Act.put, List.setIfInBounds_toArray, List.set_cons_zero, List.set_cons_succ]
      refine wpAnyH_take (i := 7) (oi := { dst := some 21, op := Op.move (Operand.tmp 5), type := 3, pos := "law.go:47", after := #[], guard := none }) (v := ?vo8_7) rfl (by kernel_rfl) (by kernel_rfl) (by kernel_rfl) (fun _ _ _ h => h) (Or.inl ⟨by rfl, ?yo8_7⟩) (by assumption) ?ro8_7
      case yo8_7 => (intro w hSw; (try dsimp only at hSw); go_simp; (try with_reducible rfl))
      try simp only [Act.put, List.setIfInBounds_toArray, List.set_cons_zero, List.set_cons_succ]
      refine wpAnyH_take (i := 8) (oi := { dst := some 22, op := Op.indexAddr 79 (Operand.tmp 20) (Operand.tmp 21), type := 0, pos := "law.go:47", after := #[{ on := 6, ground := Ground.data }, { on := 7, ground := Ground.data }], guard := none }) (v := ?vo9_8) rfl (by kernel_rfl) (by kernel_rfl) (by kernel_rfl) (fun _ _ _ h => h) (Or.inl ⟨by rfl, ?yo9_8⟩) (by assumption) ?ro9_8
      case yo9_8 => (intro w hSw; (try dsimp only at hSw); go_simp; (try with_reducible rfl))
      try simp only [Act.put, List.setIfInBounds_toArray, List.set_cons_zero, List.set_cons_succ]
      refine wpAnyH_take (i := 9) (oi := { dst := some 23, op := Op.fieldAddr 89 (Operand.tmp 22) 1, type := 0, pos := "law.go:47", after := #[{ on := 8, ground := Ground.data }], guard := none }) (v := ?vo10_9) rfl (by kernel_rfl) (by kernel_rfl) (by kernel_rfl) (fun _ _ _ h => h) (Or.inl ⟨by rfl, ?yo10_9⟩) (by assumption) ?ro10_9
      case yo10_9 => (intro w hSw; (try dsimp only at hSw); go_simp; (try with_reducible rfl))
      try simp only [Act.put, List.setIfInBounds_toArray, List.set_cons_zero, List.set_cons_succ]
      refine wpAnyH_take (i := 10) (oi := { dst := some 24, op := Op.load 9 (Operand.tmp 23), type := 9, pos := "law.go:47", after := #[{ on := 9, ground := Ground.data }], guard := none }) (v := ?vo11_10) rfl (by kernel_rfl) (by kernel_rfl) (by kernel_rfl) (fun _ _ _ h => h) (Or.inl ⟨by rfl, ?yo11_10⟩) (by assumption) ?ro11_10
      case yo11_10 => (intro w hSw; (try dsimp only at hSw); go_simp; (try with_reducible rfl))
      try simp only [Act.put, List.setIfInBounds_toArray, List.set_cons_zero, List.set_cons_succ]
      refine wpAnyH_take (i := 11) (oi := { dst := some 25, op := Op.move (Operand.tmp 4), type := 79, pos := "law.go:47", after := #[], guard := none }) (v := ?vo12_11) rfl (by kernel_rfl) (by kernel_rfl) (by kernel_rfl) (fun _ _ _ h => h) (Or.inl ⟨by rfl, ?yo12_11⟩) (by assumption) ?ro12_11
      case yo12_11 => (intro w hSw; (try dsimp only at hSw); go_simp; (try with_reducible rfl))
      try simp only [Act.put, List.setIfInBounds_toArray, List.set_cons_zero, List.set_cons_succ]
      refine wpAnyH_take (i := 12) (oi := { dst := some 26, op := Op.move (Operand.tmp 5), type := 3, pos := "law.go:47", after := #[], guard := none }) (v := ?vo13_12) rfl (by kernel_rfl) (by kernel_rfl) (by kernel_rfl) (fun _ _ _ h => h) (Or.inl ⟨by rfl, ?yo13_12⟩) (by assumption) ?ro13_12
      case yo13_12 => (intro w hSw; (try dsimp only at hSw); go_simp; (try with_reducible rfl))
      try simp only [Act.put, List.setIfInBounds_toArray, List.set_cons_zero, List.set_cons_succ]
      refine wpAnyH_take (i := 13) (oi := { dst := some 27, op := Op.indexAddr 79 (Operand.tmp 25) (Operand.tmp 26), type := 0, pos := "law.go:47", after := #[{ on := 11, ground := Ground.data }, { on := 12, ground := Ground.data }], guard := none }) (v := ?vo14_13) rfl (by kernel_rfl) (by kernel_rfl) (by kernel_rfl) (fun _ _ _ h => h) (Or.inl ⟨by rfl, ?yo14_13⟩) (by assumption) ?ro14_13
      case yo14_13 => (intro w hSw; (try dsimp only at hSw); go_simp; (try with_reducible rfl))
      try simp only [Act.put, List.setIfInBounds_toArray, List.set_cons_zero, List.set_cons_succ]
      refine wpAnyH_take (i := 14) (oi := { dst := some 28, op := Op.fieldAddr 89 (Operand.tmp 27) 2, type := 0, pos := "law.go:47", after := #[{ on := 13, ground := Ground.data }], guard := none }) (v := ?vo15_14) rfl (by kernel_rfl) (by kernel_rfl) (by kernel_rfl) (fun _ _ _ h => h) (Or.inl ⟨by rfl, ?yo15_14⟩) (by assumption) ?ro15_14
      case yo15_14 => (intro w hSw; (try dsimp only at hSw); go_simp; (try with_reducible rfl))
      try simp only [Act.put, List.setIfInBounds_toArray, List.set_cons_zero, List.set_cons_succ]
      refine wpAnyH_take (i := 15) (oi := { dst := some 29, op := Op.load 4 (Operand.tmp 28), type := 4, pos := "law.go:47", after := #[{ on := 14, ground := Ground.data }], guard := none }) (v := ?vo16_15) rfl (by kernel_rfl) (by kernel_rfl) (by kernel_rfl) (fun _ _ _ h => h) (Or.inl ⟨by rfl, ?yo16_15⟩) (by assumption) ?ro16_15
      case yo16_15 => (intro w hSw; (try dsimp only at hSw); go_simp; (try with_reducible rfl))
      try simp only [Act.put, List.setIfInBounds_toArray, List.set_cons_zero, List.set_cons_succ]
      refine wpAnyH_take (i := 16) (oi := { dst := some 30, op := Op.build 86 #[(0, Operand.tmp 19), (1, Operand.tmp 24), (2, Operand.tmp 29)], type := 86, pos := "law.go:47", after := #[{ on := 5, ground := Ground.data }, { on := 10, ground := Ground.data }, { on := 15, ground := Ground.data }], guard := none }) (v := ?vo17_16) rfl (by kernel_rfl) (by kernel_rfl) (by kernel_rfl) (fun _ _ _ h => h) (Or.inl ⟨by rfl, ?yo17_16⟩) (by assumption) ?ro17_16
      case yo17_16 => (intro w hSw; (try dsimp only at hSw); go_simp; (try with_reducible rfl))
      try simp only [Act.put, List.setIfInBounds_toArray, List.set_cons_zero, List.set_cons_succ]
      refine wpAnyH_ready (rs := [17]) (by kernel_rfl) (by simp) ?_
      refine AllReadyH.cons (o := { dst := some 31, op := Op.buildSlice 73 1 #[(0, Operand.tmp 30)], type := 73, pos := "law.go:47", after := #[{ on := 16, ground := Ground.data }], guard := none }) rfl (fun K hK => ?_) AllReadyH.nil
      go_simp; have HMC := hid (h1.out.mod.alloc (.cells #[Str x.key, Str x.val, .bool x.gone] 86)).drew
      refine hK.out _ _ ?_ (fun hHeld => ?_)
      · exact HX.out _ HMC.out
      clear hK K
      try simp only [Act.put, List.setIfInBounds_toArray, List.set_cons_zero, List.set_cons_succ]
      refine wpAnyH_ready (rs := [18]) (by kernel_rfl) (by simp) ?_
      refine AllReadyH.cons (o := { dst := some 32, op := Op.call { callee := Callee.builtin Builtin.append, args := #[Operand.tmp 14, Operand.tmp 31], argTypes := #[73, 73] }, type := 73, pos := "law.go:47", after := #[{ on := 0, ground := Ground.data }, { on := 17, ground := Ground.data }], guard := none }) rfl (fun K hK => ?_) AllReadyH.nil
      refine wp_append_R (.tmp 14) (.tmp 31) 73 rfl 86 it chZ 3 40 s_und73 HIX.out.1 HIX.out.2.1 HIX.out.2.2.1 HIX.out.2.2.2 rfl (by decide) (.slice va k vc) k (rowC L) rfl (h1.out.own_at HTL.out (Mod.refl None wr) _) _ 1 1 (chC x) rfl rfl (one_src wr 86 x) (ch_ones x) (by unfold maxLen; omega) (by omega) ?_; intro va2 vc2 w3 g2 g3 g4; have HC := hid (h1.out.snoc_at (w2 := wr.drew) (o := .cells #[Str x.key, Str x.val, .bool x.gone] 86) HTL.out (Mod.refl None wr).drew g2.out g3.out g4.out); have HMC := hid HC.out.mod; clear g2 g3 g4
      refine hK.out _ _ ?_ (fun hHeld => ?_)
      · exact HX.out _ HMC.out
      clear hK K
      try simp only [Act.put, List.setIfInBounds_toArray, List.set_cons_zero, List.set_cons_succ]
      refine wpAnyH_take (i := 19) (oi := { dst := some 3, op := Op.assign (Operand.tmp 32), type := 73, pos := "law.go:47", after := #[{ on := 18, ground := Ground.data }, { on := 18, ground := Ground.chain }, { on := 0, ground := Ground.phase }, { on := 1, ground := Ground.phase }, { on := 2, ground := Ground.phase }, { on := 3, ground := Ground.phase }, { on := 4, ground := Ground.phase }, { on := 5, ground := Ground.phase }, { on := 6, ground := Ground.phase }, { on := 7, ground := Ground.phase }, { on := 8, ground := Ground.phase }, { on := 9, ground := Ground.phase }, { on := 10, ground := Ground.phase }, { on := 11, ground := Ground.phase }, { on := 12, ground := Ground.phase }, { on := 13, ground := Ground.phase }, { on := 14, ground := Ground.phase }, { on := 15, ground := Ground.phase }, { on := 16, ground := Ground.phase }, { on := 17, ground := Ground.phase }, { on := 18, ground := Ground.phase }], guard := none }) (v := ?vo18_19) rfl (by kernel_rfl) (by kernel_rfl) (by kernel_rfl) (fun _ _ _ h => h) (Or.inl ⟨by rfl, ?yo18_19⟩) (by assumption) ?ro18_19
      case yo18_19 => (intro w hSw; (try dsimp only at hSw); go_simp; (try with_reducible rfl))
      try simp only [Act.put, List.setIfInBounds_toArray, List.set_cons_zero, List.set_cons_succ]
      refine wpAnyH_done (by kernel_rfl) ?_ _
      go_wp2_with fail
      go_roundw
      case rel => exact ⟨k + 1, va2, vc2, by omega, by go_num, rfl, by rw [HTS.out]; exact HC.out⟩
      case measure => simp [intOf]; omega
    · obtain rfl : k = n := by omega
      have hlt' : ¬ (k : Int) < (k : Int) := by omega
      have HE := hid (show l.take k = l by rw [HN.out, List.take_length])
      rw [HE.out] at h1
      go_wp2_with fail
      go_ret
      exact ⟨va, vc, by rw [← HN.out]; rfl, by rw [← HN.out]; exact h1.out.since HM1.out⟩
end Go.Proofs.Ytdhhpnfdnoaihaa

/-! T3 -/
/- The document's Same. -/
namespace Go.Proofs.Ytdhhpnfdnoaihaa
open Go.RowKit

def SameP (w : World) (b : Bool) (e : Ending) (w' : World) : Prop := e = .returned (.bool b) ∧ ∃ m, w' = w.drewN m
theorem ne_len {la lb : List Ch} (h : la.length ≠ lb.length) : decide (la = lb) = false := decide_eq_false (fun e => h (by rw [e]))
theorem ne_at {la lb : List Ch} {k : Nat} (h : nth la k ≠ nth lb k) : decide (la = lb) = false := decide_eq_false (fun e => h (by rw [e]))
theorem eq_all {la lb : List Ch} (hl : la.length = lb.length) (h : ∀ t, t < la.length → nth la t = nth lb t) : decide (la = lb) = true := by
  refine decide_eq_true (List.ext_getElem hl (fun i h1 h2 => ?_))
  have := h i h1
  rw [nth_at h1, nth_at h2] at this
  exact this
theorem str_ne {a b : List UInt8} (h : a ≠ b) : ((⟨a.toArray⟩ : ByteArray).toList == (⟨b.toArray⟩ : ByteArray).toList) = false := by
  rw [beq_eq_false_iff_ne, ByteArray.toList_eq, ByteArray.toList_eq]
  exact h
theorem drew_more (w : World) (m n : Nat) : (w.drewN m).drewN n = w.drewN (m + n) := by simp [World.drewN, Nat.add_assoc]
set_option maxRecDepth 100000 in
set_option maxHeartbeats 1600000 in
theorem same_any6 (w : World) (a b : Option Addr) (na nb ca cb : Nat) (la lb : List Ch) (hna : na = la.length) (hnb : nb = lb.length) (hra : RdV w a (rowC la)) (hrb : RdV w b (rowC lb)) (hfew : la.length ≤ 1000000) :
    Calls Try.prog 62 #[.slice a na ca, .slice b nb cb] w (SameP w (decide (la = lb))) := by
  have HA := hid hra
  have HB := hid hrb
  have HNA := hid hna
  have HNB := hid hnb
  have hn6 : na ≤ 1000000 := by omega
  clear hra hrb hfew
  by_cases hne : na = nb
  · subst hne
    clear hna hnb
    go_enter Try.func62, Try.ntmps62
    go_wp2_with fail
    go_loopw [5] (fun i wr => ∃ (k m : Nat), k ≤ na ∧ i = .int .i64 k ∧ wr = w.drewN m ∧ Hid (∀ t, t < k → nth la t = nth lb t)) (fun i _ => na - (intOf i).toNat)
    case atStart => exact ⟨0, 0, by omega, rfl, rfl, fun t ht => by omega⟩
    case round =>
      obtain ⟨k, m, hk, rfl, rfl, heq⟩ := hrel
      by_cases hlt : k < na
      · have hlt' : (k : Int) < (na : Int) := by omega
        obtain ⟨ba, oa, rfl, d1, d2, d3⟩ := rd_ch HA.out (k := k) (by have := HNA.out; omega)
        obtain ⟨bb, ob, rfl, f1, f2, f3⟩ := rd_ch HB.out (k := k) (by have := HNB.out; omega)
        have hx : nth la k = nth lb k ∨ nth la k ≠ nth lb k := Classical.em _
        have HD := hid (fun (h : nth la k ≠ nth lb k) => ne_at h)
        have HQ := hid (fun (h : nth la k = nth lb k) => show ∀ t, t < k + 1 → nth la t = nth lb t from fun t ht => by
          rcases Nat.lt_or_ge t k with h3 | h3
          · exact heq.out t h3
          · obtain rfl : t = k := by omega
            exact h)
        generalize nth la k = x at *
        generalize nth lb k = y at *
        unfold Str at d1 d2 f1 f2
        by_cases he : x = y
        · have HEQ := hid (HQ.out he)
          rw [← he] at f1 f2 f3
          clear HD HQ hx he
          go_wp2_with fail
          go_quiet (fail)
          have hw1 : IntKind.i64.wrap ((k : Int) + 1) = (k : Int) + 1 := by rw [IntKind.wrap_i64]; omega
          go_wp2_with fail
          go_roundw
          case rel => exact ⟨k + 1, _, by omega, by go_num, rfl, HEQ.out⟩
          case measure => simp [intOf]; omega
        · have HF := hid (HD.out he)
          rw [HF.out]
          clear HD HQ hx
          by_cases h1 : x.key = y.key
          · rw [← h1] at f1
            by_cases h2 : x.val = y.val
            · rw [← h2] at f2
              have h3 : (x.gone == y.gone) = false := by
                rw [beq_eq_false_iff_ne]
                intro h3
                exact he (by cases x; cases y; simp_all)
              clear he h1 h2
              go_wp2_with fail
              go_quiet (fail)
              go_wp2_with fail
              go_ret
              exact ⟨rfl, _, drew_more _ _ _⟩
            · have h3 := str_ne h2
              have h4 : (x.val == y.val) = false := beq_eq_false_iff_ne.2 h2
              clear he h1
              go_wp2_with fail
              go_quiet (fail)
              go_wp2_with fail
              go_ret
              exact ⟨rfl, _, drew_more _ _ _⟩
          · have h3 := str_ne h1
            have h4 : (x.key == y.key) = false := beq_eq_false_iff_ne.2 h1
            clear he
            go_wp2_with fail
            go_quiet (fail)
            go_wp2_with fail
            go_ret
            exact ⟨rfl, _, drew_more _ _ _⟩
      · obtain rfl : k = na := by omega
        have hlt' : ¬ (k : Int) < (k : Int) := by omega
        have HE := hid (eq_all (HNA.out.symm.trans HNB.out) (by rw [← HNA.out]; exact heq.out))
        go_wp2_with fail
        go_ret
        exact ⟨by rw [HE.out]; rfl, m, rfl⟩
  · have hb : ((na : Int) != (nb : Int)) = true := by simp; omega
    have hb2 : ¬ (na : Int) = (nb : Int) := by omega
    rw [ne_len (by rw [← HNA.out, ← HNB.out]; exact hne)]
    go_enter Try.func62, Try.ntmps62
    go_wp2_with fail
    go_ret
    exact ⟨rfl, 0, rfl⟩
end Go.Proofs.Ytdhhpnfdnoaihaa

/-! T4 -/
/- The document's Do. -/
namespace Go.Proofs.Ytdhhpnfdnoaihaa
open Go.RowKit

theorem doF_same {laid : Bool} {l : List Ch} {c : Ch} {k : Nat} (h : k < l.length) (he : (nth l k).key = c.key) : doF laid (l.drop k) c = doF laid (l.drop (k + 1)) c := by
  rw [List.drop_eq_getElem_cons h, doF, if_pos (by rw [← nth_at h]; exact he)]
theorem doF_put {l : List Ch} {c : Ch} {k : Nat} (h : k < l.length) (he : (nth l k).key ≠ c.key) (hl : klt c.key (nth l k).key = true) : doF false (l.drop k) c = c :: nth l k :: doF true (l.drop (k + 1)) c := by
  rw [List.drop_eq_getElem_cons h, doF, if_neg (by rw [← nth_at h]; exact he), if_pos (by rw [← nth_at h]; simp [hl]), nth_at h]
theorem doF_pass {laid : Bool} {l : List Ch} {c : Ch} {k : Nat} (h : k < l.length) (he : (nth l k).key ≠ c.key) (hl : laid = true ∨ klt c.key (nth l k).key = false) : doF laid (l.drop k) c = nth l k :: doF laid (l.drop (k + 1)) c := by
  rw [List.drop_eq_getElem_cons h, doF, if_neg (by rw [← nth_at h]; exact he), if_neg (by rw [← nth_at h]; rcases hl with hl | hl <;> simp [hl]), nth_at h]
theorem len1 (L : List Ch) (x : Ch) : (L ++ [x]).length = L.length + 1 := by simp
set_option maxRecDepth 100000 in
set_option maxHeartbeats 3200000 in
theorem do_any (w : World) (a : Option Addr) (n ca : Nat) (l : List Ch) (hn : n = l.length) (hr : RdV w a (rowC l)) (hfew : l.length ≤ 1000000) (c : Ch) : Calls Try.prog 94 #[.slice a n ca, chV c] w (CPostR 86 w (doL l c)) := by
  have HR := hid hr
  have HN := hid hn
  have hn6 : n ≤ 1000000 := by omega
  clear hr hn hfew
  obtain ⟨it, hit, hz, hsz, hby⟩ := info_parts s_info86
  have HIX := hid (And.intro hit (And.intro hz (And.intro hsz hby)))
  clear hit hz hsz hby
  obtain ⟨ck, cv, g0⟩ := c
  have HDL := hid (show doL l ⟨ck, cv, g0⟩ = doF g0 l ⟨ck, cv, false⟩ from rfl)
  have hbx : Blk (w.alloc (.cells #[Str ck, Str cv, .bool false] 86)) w.heap.size 86 [Str ck, Str cv, .bool false] := Blk.new w 86 _
  unfold chV
  unfold Str at *
  dsimp only
  go_enter Try.func94, Try.ntmps94
  go_wp2_with fail
  have HB1 := hid hbx
  have HM1 := hid ((Mod.refl None w).alloc (.cells #[.string { data := ck.toArray }, .string { data := cv.toArray }, .bool false] 86))
  clear hbx
  generalize w.alloc (.cells #[.string { data := ck.toArray }, .string { data := cv.toArray }, .bool false] 86) = w1 at *
  generalize w.heap.size = q at *
  have HC0 := hid (show chC ⟨ck, cv, false⟩ = [.string { data := ck.toArray }, .string { data := cv.toArray }, .bool false] from rfl)
  go_loopw [5, 6, 7] (fun v bl i wr => ∃ (k : Nat) (va : Option Addr) (vc : Nat) (laid : Bool) (L : List Ch), k ≤ n ∧ i = .int .i64 k ∧ bl = .bool laid ∧ v = .slice va L.length vc ∧ Hid (CRow 86 w1 wr (.slice va L.length vc) L) ∧ Hid (L ++ doF laid (l.drop k) ⟨ck, cv, false⟩ = doL l ⟨ck, cv, g0⟩) ∧ L.length ≤ k + 1 ∧ Hid (laid = false → L.length ≤ k)) (fun _ _ i _ => n - (intOf i).toNat)
  case atStart => exact ⟨0, none, 0, g0, [], by omega, rfl, rfl, rfl, CRow.nil 86 w1, by rw [HDL.out]; rfl, by simp, fun _ => Nat.zero_le _⟩
  case round =>
    obtain ⟨k, va, vc, laid, L, hk, rfl, rfl, rfl, h1, hR, hlen, hlf⟩ := hrel
    have b0 : wr.cell? ⟨q, 0, none⟩ = some (.string { data := ck.toArray }) := (h1.out.mod.blk HB1.out (fun h => h)).is rfl
    have b1 : wr.cell? ⟨q, 1, none⟩ = some (.string { data := cv.toArray }) := (h1.out.mod.blk HB1.out (fun h => h)).is rfl
    have b2 : wr.cell? ⟨q, 2, none⟩ = some (.bool false) := (h1.out.mod.blk HB1.out (fun h => h)).is rfl
    by_cases hlt : k < n
    · have hlt' : (k : Int) < (n : Int) := by omega
      have hkl : k < l.length := by have := HN.out; omega
      obtain ⟨b, o, rfl, e1, e2, e3⟩ := rd_ch HR.out hkl
      have HE0 := hid (And.intro e1 (And.intro e2 e3))
      have HX := hid (held3 e1 e2 e3 (HM1.out.trans h1.out.mod))
      obtain ⟨e1, e2, e3⟩ := HX.out
      by_cases hke : (nth l k).key = ck
      · have HRN := hid (show L ++ doF laid (l.drop (k + 1)) ⟨ck, cv, false⟩ = doL l ⟨ck, cv, g0⟩ by rw [← doF_same hkl hke]; exact hR.out)
        rw [hke] at e1
        generalize nth l k = x at *
        go_wp2_with fail
        go_quiet (fail)
        go_wp2_with fail
        go_roundw
        case rel => exact ⟨k + 1, va, vc, laid, L, by omega, by go_num, rfl, rfl, h1.out.keep (mod_drewN _ _), HRN.out, by omega, fun h => by have := hlf.out h; omega⟩
        case measure => simp [intOf]; omega
      · have hne1 := str_ne hke
        have hne2 : ((nth l k).key == ck) = false := beq_eq_false_iff_ne.2 hke
        have HPUT := hid (fun h => doF_put (c := ⟨ck, cv, false⟩) hkl hke h)
        have HPASS := hid (fun b h => doF_pass (laid := b) (c := ⟨ck, cv, false⟩) hkl hke h)
        dsimp only at HPUT HPASS
        generalize nth l k = x at *
        cases laid with
        | true =>
          have HRN := hid (show (L ++ [x]) ++ doF true (l.drop (k + 1)) ⟨ck, cv, false⟩ = doL l ⟨ck, cv, g0⟩ by rw [List.append_assoc, ← hR.out, HPASS.out true (.inl rfl)]; rfl)
          have HSR := hid (fun t => (one_src wr t x))
          go_wp2_with fail
          go_quiet (fail)
          go_wp2_with fail
          go_quiet (fail)
          go_wp2_with (at_builtin; go_loud (refine wpList_plain rfl (fun K hK => wp_append_R (.tmp 41) (.tmp 46) 73 rfl 86 it chZ 3 40 s_und73 HIX.out.1 HIX.out.2.1 HIX.out.2.2.1 HIX.out.2.2.2 rfl (by decide) _ _ _ rfl (h1.out.own_at rfl (mod_drewN wr _) _) _ 1 1 (chC x) rfl rfl (one_src _ 86 x) (ch_ones x) (by unfold maxLen; omega) (by omega) (fun vx vxc w3 g2 g3 g4 => hK _ _ ?_))); have HC1 := hid (h1.out.snoc_at rfl (mod_drewN wr _) g2.out g3.out g4.out); clear g2 g3 g4)
          go_roundw
          case rel => exact ⟨k + 1, vx, vxc, true, L ++ [x], by omega, by go_num, rfl, by rw [len1], by rw [len1]; exact HC1.out, HRN.out, by rw [len1]; omega, fun h => by cases h⟩
          case measure => simp [intOf]; omega
        | false =>
          cases hkl2 : klt ck x.key with
          | true =>
            have HRN := hid (show (L ++ [⟨ck, cv, false⟩] ++ [x]) ++ doF true (l.drop (k + 1)) ⟨ck, cv, false⟩ = doL l ⟨ck, cv, g0⟩ by rw [← hR.out, HPUT.out hkl2]; simp)
            unfold klt at hkl2
            go_wp2_with fail
            go_quiet (fail)
            go_wp2_with fail
            go_quiet (fail)
            clear e1 e2 e3
            go_wp2_with (first | (at_builtin; refine wpList_plain rfl (fun K hK => wp_append_R (.tmp 37) (.tmp 39) 73 rfl 86 it chZ 3 40 s_und73 HIX.out.1 HIX.out.2.1 HIX.out.2.2.1 HIX.out.2.2.2 rfl (by decide) _ _ _ rfl (h1.out.own_at rfl (mod_drewN wr _) _) _ 1 1 (chC ⟨ck, cv, false⟩) rfl rfl (one_src _ 86 ⟨ck, cv, false⟩) (ch_ones ⟨ck, cv, false⟩) (by unfold maxLen; omega) (by omega) (fun vx vxc w3 g2 g3 g4 => hK _ _ ?_)); have HC1 := hid (h1.out.snoc_at rfl (mod_drewN wr _) g2.out g3.out g4.out); clear g2 g3 g4; have HX3 := hid (held3 HE0.out.1 HE0.out.2.1 HE0.out.2.2 (HM1.out.trans HC1.out.mod)); obtain ⟨e1, e2, e3⟩ := HX3.out) | (at_builtin; refine wpList_plain rfl (fun K hK => wp_append_R (.tmp 41) (.tmp 46) 73 rfl 86 it chZ 3 40 s_und73 HIX.out.1 HIX.out.2.1 HIX.out.2.2.1 HIX.out.2.2.2 rfl (by decide) _ _ _ rfl (HC1.out.own_at (len1 _ _) (Mod.refl None w3) _) _ 1 1 (chC x) rfl rfl (one_src _ 86 x) (ch_ones x) (by unfold maxLen; omega) (by omega) (fun vy vyc w4 g2 g3 g4 => hK _ _ ?_)); have HC2 := hid (HC1.out.snoc_at (len1 _ _) (Mod.refl None w3) g2.out g3.out g4.out); clear g2 g3 g4))
            go_roundw
            case rel => exact ⟨k + 1, vy, vyc, true, L ++ [(⟨ck, cv, false⟩ : Ch)] ++ [x], by omega, by go_num, rfl, by rw [len1, len1], by rw [len1, len1]; exact HC2.out, HRN.out, by rw [len1, len1]; have := hlf.out trivial; omega, fun h => by cases h⟩
            case measure => simp [intOf]; omega
          | false =>
            have HRN := hid (show (L ++ [x]) ++ doF false (l.drop (k + 1)) ⟨ck, cv, false⟩ = doL l ⟨ck, cv, g0⟩ by rw [List.append_assoc, ← hR.out, HPASS.out false (.inr hkl2)]; rfl)
            unfold klt at hkl2
            go_wp2_with fail
            go_quiet (fail)
            go_wp2_with fail
            go_quiet (fail)
            go_wp2_with (at_builtin; go_loud (refine wpList_plain rfl (fun K hK => wp_append_R (.tmp 41) (.tmp 46) 73 rfl 86 it chZ 3 40 s_und73 HIX.out.1 HIX.out.2.1 HIX.out.2.2.1 HIX.out.2.2.2 rfl (by decide) _ _ _ rfl (h1.out.own_at rfl (mod_drewN wr _) _) _ 1 1 (chC x) rfl rfl (one_src _ 86 x) (ch_ones x) (by unfold maxLen; omega) (by omega) (fun vx vxc w3 g2 g3 g4 => hK _ _ ?_))); have HC1 := hid (h1.out.snoc_at rfl (mod_drewN wr _) g2.out g3.out g4.out); clear g2 g3 g4)
            go_roundw
            case rel => exact ⟨k + 1, vx, vxc, false, L ++ [x], by omega, by go_num, rfl, by rw [len1], by rw [len1]; exact HC1.out, HRN.out, by rw [len1]; omega, fun _ => by rw [len1]; have := hlf.out trivial; omega⟩
            case measure => simp [intOf]; omega
    · obtain rfl : k = n := by omega
      have hlt' : ¬ (k : Int) < (k : Int) := by omega
      have HE := hid (show l.drop k = [] by rw [HN.out, List.drop_length])
      cases laid with
      | true =>
        have HF := hid (show L = doL l ⟨ck, cv, g0⟩ by have := hR.out; rw [HE.out] at this; rw [← this]; simp [doF])
        go_wp2_with fail
        go_ret
        exact ⟨va, vc, by rw [← HF.out]; rfl, by rw [← HF.out]; exact h1.out.since HM1.out⟩
      | false =>
        have HF := hid (show L ++ [⟨ck, cv, false⟩] = doL l ⟨ck, cv, g0⟩ by have := hR.out; rw [HE.out] at this; rw [← this]; simp [doF])
        go_wp2_with (at_builtin; go_loud (refine wpList_plain rfl (fun K hK => wp_append_R (.tmp 50) (.tmp 52) 73 rfl 86 it chZ 3 40 s_und73 HIX.out.1 HIX.out.2.1 HIX.out.2.2.1 HIX.out.2.2.2 rfl (by decide) _ _ _ rfl (h1.out.own_at rfl (Mod.refl None wr) _) _ 1 1 (chC ⟨ck, cv, false⟩) rfl rfl (one_src _ 86 ⟨ck, cv, false⟩) (ch_ones ⟨ck, cv, false⟩) (by unfold maxLen; omega) (by omega) (fun vx vxc w3 g2 g3 g4 => hK _ _ ?_))); have HC1 := hid (h1.out.snoc_at rfl (Mod.refl None wr) g2.out g3.out g4.out); clear g2 g3 g4)
        go_ret
        have hc := HC1.out
        rw [HF.out] at hc
        have hl : L.length + 1 = (doL l ⟨ck, cv, g0⟩).length := by rw [← HF.out, len1]
        exact ⟨vx, vxc, by rw [← hl]; rfl, by rw [← hl]; exact hc.since HM1.out⟩
end Go.Proofs.Ytdhhpnfdnoaihaa

/-! T5 -/
/- The document's All. -/
namespace Go.Proofs.Ytdhhpnfdnoaihaa
open Go.RowKit

def AllR (w : World) (L : List Ch) (e : Ending) (w' : World) : Prop := ∃ a c, e = .returned (.slice a L.length c) ∧ RdV w' a (rowC L) ∧ Mod None w w'
theorem all_take {l batch : List Ch} {k : Nat} (h : k < batch.length) : allL l (batch.take (k + 1)) = doL (allL l (batch.take k)) (nth batch k) := by
  rw [take_succ_ch h]; exact all_snoc _ _ _
theorem do_row {w w' : World} {L : List Ch} {e : Ending} (h : CPostR 86 w L e w') : AllR w L e w' := by
  obtain ⟨a, c, he, hr⟩ := h
  obtain ⟨a', c', e', hrd⟩ := hr.shape
  obtain ⟨rfl, rfl⟩ : a = a' ∧ c = c' := by injection e' with e1 e2 e3; exact ⟨e1, e3⟩
  exact ⟨a, c, he, hrd, hr.mod⟩
set_option maxRecDepth 100000 in
set_option maxHeartbeats 1600000 in
theorem all_any (w : World) (a : Option Addr) (n ca : Nat) (l : List Ch) (hn : n = l.length) (hr : RdV w a (rowC l)) (hR : Rising l) (ab : Option Addr) (nb cb : Nat) (batch : List Ch) (hnb : nb = batch.length) (hrb : RdV w ab (rowC batch)) (hfew : l.length + batch.length ≤ 1000000) :
    Calls Try.prog 56 #[.slice a n ca, .slice ab nb cb] w (AllR w (allL l batch)) := by
  have HRB := hid hrb
  have HN := hid hnb
  have HLEN := hid (fun k => all_len (batch.take k) hR)
  have HF := hid hfew
  have HST := hid (show n = (allL l (batch.take 0)).length by rw [List.take_zero]; exact hn)
  have HRR := hid (show RdV w a (rowC (allL l (batch.take 0))) by rw [List.take_zero]; exact hr)
  have hnb6 : nb ≤ 1000000 := by omega
  clear hr hrb hR hn hnb hfew
  go_enter Try.func56, Try.ntmps56
  go_wp2_with fail
  go_loopw [5, 6] (fun v i wr => ∃ (k : Nat) (va : Option Addr) (vc : Nat), k ≤ nb ∧ i = .int .i64 k ∧ v = .slice va (allL l (batch.take k)).length vc ∧ Hid (RdV wr va (rowC (allL l (batch.take k)))) ∧ Hid (Mod None w wr)) (fun _ i _ => nb - (intOf i).toNat)
  case atStart => exact ⟨0, a, ca, by omega, rfl, by rw [← HST.out], HRR.out, Mod.refl _ _⟩
  case round =>
    obtain ⟨k, va, vc, hk, rfl, rfl, h1, hm⟩ := hrel
    by_cases hlt : k < nb
    · have hlt' : (k : Int) < (nb : Int) := by omega
      have hkb : k < batch.length := by have := HN.out; omega
      obtain ⟨b, o, rfl, e1, e2, e3⟩ := rd_ch (hm.out.rdv HRB.out (fun _ _ h => h)) hkb
      have HS := hid (all_take (l := l) hkb)
      have HLK := hid (show (allL l (batch.take k)).length ≤ 1000000 by
        have h1 := HLEN.out k
        have h2 : (batch.take k).length ≤ batch.length := by rw [List.length_take]; omega
        have := HF.out; omega)
      have HDO := hid (do_any wr va (allL l (batch.take k)).length vc (allL l (batch.take k)) rfl h1.out HLK.out (nth batch k))
      generalize allL l (batch.take k) = L at *
      generalize nth batch k = x at *
      unfold Str at e1 e2
      unfold chV Str at HDO
      go_wp2_with fail
      refine HDO.out.mono ?_
      intro e w2 hp
      obtain ⟨a2, c2, rfl, hr2, hm2⟩ := do_row hp
      have HR2 := hid hr2
      have HM2 := hid (hm.out.trans hm2)
      clear hp hr2 hm2 HDO
      go_wp2_with fail
      go_roundw
      case rel => exact ⟨k + 1, a2, c2, by omega, by go_num, by rw [HS.out], by rw [HS.out]; exact HR2.out, HM2.out⟩
      case measure => simp [intOf]; omega
    · obtain rfl : k = nb := by omega
      have hlt' : ¬ (k : Int) < (k : Int) := by omega
      have HE := hid (show allL l (batch.take k) = allL l batch by rw [HN.out, List.take_length])
      rw [HE.out] at h1 ⊢
      go_wp2_with fail
      go_ret
      exact ⟨va, vc, rfl, h1.out, hm.out⟩
end Go.Proofs.Ytdhhpnfdnoaihaa

/-! T6 -/
/- The weight of pairs; what a Commit answers. -/
namespace Go.Proofs.Ytdhhpnfdnoaihaa
open Go.RowKit

def sumC (l : List Ch) : Nat := (l.map wtC).sum
theorem sumC_cons (x : Ch) (l : List Ch) : sumC (x :: l) = wtC x + sumC l := by simp [sumC]
theorem wtL_sum (l : List Ch) : wtL l = 8 + sumC l := rfl
theorem sum_doF : ∀ (l : List Ch) (g : Bool) (c : Ch), sumC (doF g l c) ≤ sumC l + (if g then 0 else wtC c)
  | [], g, c => by
    unfold doF
    cases g <;> simp [sumC]
  | x :: l, g, c => by
    unfold doF
    by_cases h1 : x.key = c.key
    · rw [if_pos h1, sumC_cons]
      have := sum_doF l g c
      omega
    · rw [if_neg h1]
      by_cases h2 : (!g && klt c.key x.key) = true
      · rw [if_pos h2, sumC_cons, sumC_cons, sumC_cons]
        have := sum_doF l true c
        rw [Bool.and_eq_true] at h2
        have hg : g = false := by simpa using h2.1
        subst hg
        simp only [if_true, Bool.false_eq_true, if_false] at *
        omega
      · rw [if_neg h2, sumC_cons, sumC_cons]
        have := sum_doF l g c
        omega
theorem sum_doL (l : List Ch) (c : Ch) : sumC (doL l c) ≤ sumC l + wtC c := by
  have h := sum_doF l c.gone { c with gone := false }
  have e : wtC { c with gone := false } = wtC c := rfl
  rw [e] at h
  unfold doL
  cases hg : c.gone <;> simp [hg] at h <;> omega
theorem sum_allL : ∀ (b l : List Ch), sumC (allL l b) ≤ sumC l + sumC b
  | [], l => by show sumC l ≤ _; omega
  | c :: b, l => by
    have h1 := sum_allL b (doL l c)
    have h2 := sum_doL l c
    rw [sumC_cons]
    show sumC (allL (doL l c) b) ≤ _
    omega
theorem wt_all (l : List Ch) : wtL (allL [] l) ≤ wtL l := by
  have := sum_allL l []
  have e : sumC [] = 0 := rfl
  rw [wtL_sum, wtL_sum]; omega
/-- what a Commit answers, and what there is then -/
theorem SSt.commit_says (σ : SSt) (l : List Ch) : ((σ.commit l).2 = 0 ∧ (σ.commit l).1.has = allL σ.has l) ∨ ((σ.commit l).2 = 51 ∧ (σ.commit l).1 = σ ∧ ¬ fits σ.st 0 (encL (allL σ.has l)).length ∧ ¬ fits σ.st σ.en (encL l).length) := by
  by_cases h1 : fits σ.st σ.en (encL l).length
  · rw [SSt.commit_fits h1]; exact .inl ⟨rfl, rfl⟩
  · by_cases h2 : fits σ.st 0 (encL (allL σ.has l)).length
    · rw [SSt.commit_turns h1 h2]; exact .inl ⟨rfl, rfl⟩
    · rw [SSt.commit_full h1 h2]; exact .inr ⟨rfl, rfl, h2, h1⟩
/-- another call, which writes what the store does not hold -/
theorem IsStore.other {w0 w w' : World} {T : Nat → Prop} {s p : Nat} {σ : SSt} {U : Nat → Prop} (h : IsStore w0 w T s p σ) (hm : Mod U w w') (hU : ∀ k, U k → ¬ T k ∧ w0.heap.size ≤ k) : IsStore w0 w' T s p σ := by
  obtain ⟨S, c, j, v, h, h1, h2⟩ := h
  have hn : ∀ k, T k → ¬ U k := fun k hk hu => (hU k hu).1 hk
  refine ⟨S, c, j, v, ?_, h1, fun k hk => ⟨Nat.lt_of_lt_of_le (h2 k hk).1 hm.size, (h2 k hk).2⟩⟩
  exact {
    live := (h.live.turn (T := U) (T' := U) (.same hm) (fun k hk => hn k (h1 k (.inl hk))) (fun k hu => (hU k hu).2)).1
    obj := hm.blk h.obj (hn s (h1 s (.inr (.inl rfl))))
    cell := hm.blk h.cell (hn c (h1 c (.inr (.inr (.inl rfl)))))
    log := hm.blk h.log (hn j (h1 j (.inr (.inr (.inr (.inl rfl))))))
    row := row_kept h.row hm (fun g hg => hn g (h1 g (.inr (.inr (.inr (.inr hg))))))
    sS := h.sS
    cS := h.cS
    jS := h.jS
    vS := h.vS
    s0 := h.s0
    c0 := h.c0
    j0 := h.j0
    v0 := h.v0
    ok := h.ok }
end Go.Proofs.Ytdhhpnfdnoaihaa

/-! T7 -/
/- The walk of StoreKeeps. -/
namespace Go.Proofs.Ytdhhpnfdnoaihaa
open Go.RowKit

/-- changes that are handed in -/
def VChs (w : World) (v : Value) (l : List Ch) : Prop := ∃ a cap, v = .slice a l.length cap ∧ RdV w a (rowC l) ∧ wtL l ≤ 100000000
def spoilt : List UInt8 := [115, 112, 111, 105, 108, 116]
/-- the batch's row: from i on it is as it was handed in -/
def KRow (wr : World) (a : Option Addr) (l : List Ch) (i : Nat) : Prop := l = [] ∨ ∃ g cs, a = some ⟨g, 0, none⟩ ∧ Blk wr g 89 cs ∧ (∀ t, t < l.length → (∃ u, cs[t * 3]? = some u) ∧ (i ≤ t → cs[t * 3]? = some (Str (nth l t).key)) ∧ cs[t * 3 + 1]? = some (Str (nth l t).val) ∧ cs[t * 3 + 2]? = some (.bool (nth l t).gone))
theorem KRow.of {w wr : World} {a : Option Addr} {c : Nat} {l : List Ch} (h : CRow 89 w wr (.slice a l.length c) l) : KRow wr a l 0 := by
  by_cases h0 : 0 < l.length
  · obtain ⟨g, cap, rest, e, _, hb, _⟩ := OwnR.open1 (S := fun _ => True) ⟨h.own, fun _ _ => trivial⟩ h0
    obtain ⟨rfl, _⟩ : a = some ⟨g, 0, none⟩ ∧ c = cap := by simpa using e
    refine .inr ⟨g, _, rfl, hb, fun t ht => ?_⟩
    obtain ⟨k0, k1, k2⟩ := rowC_at l t ht
    have hl := rowC_length l
    refine ⟨⟨_, by rw [List.getElem?_append_left (by omega)]; exact k0⟩, fun _ => by rw [List.getElem?_append_left (by omega)]; exact k0, by rw [List.getElem?_append_left (by omega)]; exact k1, by rw [List.getElem?_append_left (by omega)]; exact k2⟩
  · exact .inl (List.eq_nil_of_length_eq_zero (by omega))
theorem KRow.keep {wr wq : World} {a : Option Addr} {l : List Ch} {i : Nat} {U : Nat → Prop} (h : KRow wr a l i) (hm : Mod U wr wq) (hU : ∀ g, a = some ⟨g, 0, none⟩ → ¬ U g) : KRow wq a l i := by
  rcases h with h | ⟨g, cs, rfl, hb, hc⟩
  · exact .inl h
  · exact .inr ⟨g, cs, rfl, hm.blk hb (hU g rfl), hc⟩
theorem KRow.at {wr : World} {a : Option Addr} {l : List Ch} {i t : Nat} (h : KRow wr a l i) (ht : t < l.length) (hi : i ≤ t) : ∃ g, a = some ⟨g, 0, none⟩ ∧ wr.cell? ⟨g, t * 3, none⟩ = some (Str (nth l t).key) ∧ wr.cell? ⟨g, t * 3 + 1, none⟩ = some (Str (nth l t).val) ∧ wr.cell? ⟨g, t * 3 + 2, none⟩ = some (.bool (nth l t).gone) ∧ ∀ k, wr.frozen? ⟨g, k, none⟩ = false := by
  rcases h with rfl | ⟨g, cs, rfl, hb, hc⟩
  · simp at ht
  · obtain ⟨_, h1, h2, h3⟩ := hc t ht
    exact ⟨g, rfl, hb.is (h1 hi), hb.is h2, hb.is h3, fun k => hb.free k⟩
theorem KRow.spoil {wr : World} {g : Nat} {l : List Ch} {i : Nat} (h : KRow wr (some ⟨g, 0, none⟩) l i) (u : Value) : KRow (wr.setCell ⟨g, i * 3, none⟩ u) (some ⟨g, 0, none⟩) l (i + 1) := by
  rcases h with h | ⟨g', cs, e, hb, hc⟩
  · exact .inl h
  · obtain rfl : g = g' := by simpa using e
    refine .inr ⟨g, _, rfl, hb.set (i * 3) u, fun t ht => ?_⟩
    obtain ⟨⟨u', h0⟩, h1, h2, h3⟩ := hc t ht
    refine ⟨?_, fun hi => ?_, ?_, ?_⟩
    · by_cases e : i * 3 = t * 3
      · rw [e]
        have hl : t * 3 < cs.length := by
          rcases Nat.lt_or_ge (t * 3) cs.length with h | h
          · exact h
          · rw [List.getElem?_eq_none h] at h0; cases h0
        exact ⟨u, List.getElem?_set_self hl⟩
      · exact ⟨u', by rw [List.getElem?_set_ne e]; exact h0⟩
    · rw [List.getElem?_set_ne (by omega)]; exact h1 (by omega)
    · rw [List.getElem?_set_ne (by omega)]; exact h2
    · rw [List.getElem?_set_ne (by omega)]; exact h3
/-- values that are written over -/
def URow (wr : World) (a : Option Addr) (n : Nat) : Prop := n = 0 ∨ ∃ g cs, a = some ⟨g, 0, none⟩ ∧ Blk wr g 89 cs ∧ n * 3 ≤ cs.length
theorem URow.of {w wr : World} {a : Option Addr} {c : Nat} {l : List Ch} (h : ChRow w wr (.slice a l.length c) l) : URow wr a l.length := by
  by_cases h0 : 0 < l.length
  · obtain ⟨g, cap, rest, e, _, hb, h1, _, h3⟩ := h.open1 h0
    obtain ⟨rfl, _⟩ : a = some ⟨g, 0, none⟩ ∧ c = cap := by simpa using e
    exact .inr ⟨g, _, rfl, hb, by omega⟩
  · exact .inl (by omega)
theorem URow.set {wr : World} {g n : Nat} {cs : List Value} (hb : Blk wr g 89 cs) (hn : n * 3 ≤ cs.length) (i : Nat) (u : Value) : URow (wr.setCell ⟨g, i, none⟩ u) (some ⟨g, 0, none⟩) n :=
  .inr ⟨g, _, rfl, hb.set i u, by rw [List.length_set]; exact hn⟩
set_option maxRecDepth 100000 in
set_option maxHeartbeats 3200000 in
theorem StoreKeeps_walk (w : World) (v0 : Value) (l : List Ch) (w0 : VChs w v0 l) :
    Calls Try.prog 18 #[v0] w fun e w' => e = .returned (.bool true) ∧ Below w.heap.size w w' := by
  obtain ⟨a, cap, rfl, hrd, hwt⟩ := w0
  have HRD := hid hrd
  have HWT := hid hwt
  clear hrd hwt
  go_enter Try.func18, Try.ntmps18
  go_wp2_with fail
  refine (live_new w w (Mod.refl _ _) 4000 4000 (by omega)).mono ?_
  rintro e w1 ⟨p, S, rfl, hl, _, _⟩
  have HL := hid hl
  clear hl
  go_wp2_with fail
  refine (is_open HL.out (by omega) (by omega)).mono ?_
  rintro e w2 ⟨s, T, rfl, hs, _⟩
  have HS := hid hs
  clear hs HL
  go_wp2_with fail
  refine (awake6_any w2).mono ?_
  rintro e w3 ⟨rfl, hm3⟩
  have HS3 := hid (HS.out.step hm3)
  clear hm3 HS
  go_wp2_with fail
  refine (few_any w3 a l.length cap).mono ?_
  rintro e w4 ⟨rfl, rfl⟩
  by_cases h3 : l.length ≤ 300
  · rw [decide_eq_true h3]
    go_wp2_with fail
    refine (batch_any w3 a l.length cap l rfl (HS3.out.mod.rdv HRD.out (fun _ _ h => h)) (by omega)).mono ?_
    rintro e w4 ⟨ba, bc, rfl, hb4⟩
    have HB4 := hid hb4
    have HS4 := hid (HS3.out.step hb4.mod)
    obtain ⟨ra, rc, re, hrd4⟩ := hb4.shape
    obtain ⟨rfl, rfl⟩ : ba = ra ∧ bc = rc := by injection re with e1 e2 e3; exact ⟨e1, e3⟩
    have HC := hid (is_commit HS4.out (by decide) l ba l.length bc rfl hrd4 (by show 0 + l.length ≤ _; omega) HWT.out (Nat.le_trans (wt_all l) HWT.out))
    have HTB := hid (show ∀ g, (Value.slice ba l.length bc).ownBlock = some g → ¬ T g ∧ w.heap.size ≤ g ∧ g < w4.heap.size from fun g hg => by
      obtain ⟨S', c', j', v', _, _, h2⟩ := HS3.out
      have h0 := HS3.out.mod.size
      have h1 := hb4.new g hg
      obtain ⟨cs, hk⟩ := row_blk hb4.own hg
      exact ⟨fun ht => by have := (h2 g ht).1; omega, by omega, hk.lt⟩)
    clear hb4 re hrd4
    have HSAY := hid ((SSt.new (DSt.new 4000)).commit_says l)
    generalize hr : (SSt.new (DSt.new 4000)).commit l = r at *
    clear hr
    go_wp2_with fail
    refine HC.out.mono ?_
    rintro e w5 ⟨T5, rfl, hs5, t5⟩
    have HS5 := hid hs5
    have HT5 := hid t5
    clear hs5 t5 HC
    rcases HSAY.out with ⟨hz, hhas⟩ | ⟨hz, _⟩
    · rw [hz]
      have HAS := hid (show r.1.has = allL [] l from hhas)
      clear hz hhas HSAY
      have HKB := hid (show ∀ g, ba = some ⟨g, 0, none⟩ → 0 < l.length → ¬ T5 g ∧ w.heap.size ≤ g from fun g hg h0 => by
        have := HTB.out g (by rw [hg]; rfl)
        exact ⟨not_after HT5.out this.2.2 this.1, this.2.1⟩)
      have HK5 := hid ((KRow.of HB4.out).keep HT5.out.mod (fun g hg ht => (HTB.out g (by rw [hg]; rfl)).1 ht))
      generalize hσ : r.1 = σ at *
      clear hσ
      clear HB4 HTB HT5 HS4 HS3
      go_wp2_with fail
      go_loopw [6] (fun vi wr => ∃ i : Nat, i ≤ l.length ∧ vi = .int .i64 i ∧ Hid (IsStore w wr T5 s p σ) ∧ Hid (KRow wr ba l i)) (fun vi _ => l.length - (intOf vi).toNat)
      case atStart => exact ⟨0, by omega, rfl, HS5.out, HK5.out⟩
      case round =>
        obtain ⟨i, hi, rfl, h1, h2⟩ := hrel
        clear HS5 HK5
        by_cases hlt : i < l.length
        · have hlt' : (i : Int) < (l.length : Int) := by omega
          obtain ⟨g, rfl, k0, k1, k2, kf⟩ := h2.out.at hlt (Nat.le_refl _)
          obtain ⟨b, o, rfl, e0, e1, e2⟩ := rd_ch (h1.out.mod.rdv HRD.out (fun _ _ h => h)) hlt
          generalize nth l i = x at *
          unfold Str at k0 k1 e0 e1
          generalize hnn : l.length = nn at *
          go_wp2_with fail
          go_quiet (fail)
          rename_i nq
          have HST2 := hid (fun u => (h1.out.step (mod_drewN wr nq)).other (Mod.set (S := fun k => k = g) (Mod.refl _ (wr.drewN nq)) (p := ⟨g, i * 3, none⟩) (.inl rfl) u) (fun k e => by subst e; exact HKB.out k rfl (by omega)))
          have HSP2 := hid ((h2.out.keep (mod_drewN wr nq) (fun _ _ e => e)).spoil (i := i) (.string { data := #[115, 112, 111, 105, 108, 116] }))
          go_wp2_with fail
          go_roundw
          case rel => exact ⟨i + 1, by omega, by go_num, HST2.out _, HSP2.out⟩
          case measure => simp [intOf]; omega
        · obtain rfl : i = l.length := by omega
          have hlt' : ¬ (l.length : Int) < (l.length : Int) := by omega
          have HS6 := hid h1.out
          have HFEW := hid (show σ.has.length ≤ 1000000 by rw [HAS.out]; have := all_len l (l := []) List.Pairwise.nil; simp at this; omega)
          have HP := hid (pairs_any HS6.out HFEW.out)
          clear h1 h2
          go_wp2_with fail
          refine HP.out.mono ?_
          rintro e w6 ⟨wa, wc, rfl, hrow⟩
          have HWAS := hid hrow
          have HS7 := hid (HS6.out.step hrow.mod)
          clear hrow HP HS6
          have HU := hid (is_under HS7.out [] HFEW.out)
          rw [under_all] at HU
          unfold Str at HU
          go_wp2_with fail
          refine HU.out.mono ?_
          rintro e w7 ⟨ua, uc, rfl, hu⟩
          have HM7 := hid hu.mod
          have HU7 := hid (URow.of hu)
          have HUN := hid (show ∀ g, ua = some ⟨g, 0, none⟩ → w6.heap.size ≤ g from fun g hg => hu.new g (by rw [hg]; rfl))
          clear hu HU
          generalize hnn : σ.has.length = nn at *
          have HNN := hid hnn
          clear hnn
          go_wp2_with fail
          go_loopw [9] (fun vi wr => ∃ i : Nat, i ≤ nn ∧ vi = .int .i64 i ∧ Hid (Mod None w6 wr) ∧ Hid (URow wr ua nn)) (fun vi _ => nn - (intOf vi).toNat)
          case atStart => exact ⟨0, by omega, rfl, HM7.out, HU7.out⟩
          case round =>
            obtain ⟨i, hi, rfl, h1, h2⟩ := hrel
            clear HU7 HM7
            by_cases hlt : i < nn
            · have hlt' : (i : Int) < (nn : Int) := by omega
              have hw1 : IntKind.i64.wrap ((i : Int) + 1) = (i : Int) + 1 := by have := HFEW.out; rw [IntKind.wrap_i64]; omega
              have hw2 : wrap64 ((i : Int) + 1) = (i : Int) + 1 := by have := HFEW.out; unfold wrap64; omega
              rcases h2.out with h0 | ⟨g, cs, rfl, hb, hcs⟩
              · omega
              obtain ⟨cv, hcell⟩ : ∃ cv, wr.cell? ⟨g, i * 3 + 1, none⟩ = some cv := ⟨_, hb.cellAt (i * 3 + 1) (by omega)⟩
              have hfr := hb.free
              have HN := hid (fun u => URow.set hb hcs (i * 3 + 1) u)
              have HMN := hid (fun u => h1.out.set (p := ⟨g, i * 3 + 1, none⟩) (.inr (HUN.out g rfl)) u)
              clear hb hcs h2
              go_wp2_with fail
              go_roundw
              case rel => exact ⟨i + 1, by omega, by go_num, HMN.out _, HN.out _⟩
              case measure => simp [intOf]; omega
            · obtain rfl : i = nn := by omega
              have hlt' : ¬ (i : Int) < (i : Int) := by omega
              have HS8 := hid (HS7.out.step h1.out)
              obtain ⟨ra, rc, re, hrw⟩ := HWAS.out.shape
              obtain ⟨rfl, rfl⟩ : wa = ra ∧ wc = rc := by injection re with e1 e2 e3; exact ⟨e1, e3⟩
              have HRW := hid (h1.out.rdv hrw (fun _ _ h => h))
              have HP2 := hid (pairs_any HS8.out (by rw [HNN.out]; exact HFEW.out))
              clear h1 h2 re hrw HS7 HWAS
              go_wp2_with fail
              refine HP2.out.mono ?_
              rintro e w8 ⟨pa, pc, rfl, hrow8⟩
              have HS9 := hid (HS8.out.step hrow8.mod)
              have HRW8 := hid (hrow8.mod.rdv HRW.out (fun _ _ h => h))
              obtain ⟨ra, rc, re, hrp⟩ := hrow8.shape
              obtain ⟨rfl, rfl⟩ : pa = ra ∧ pc = rc := by injection re with e1 e2 e3; exact ⟨e1, e3⟩
              have HE1 := hid (same_any6 w8 pa wa σ.has.length i pc wc σ.has σ.has rfl HNN.out.symm hrp HRW8.out (by rw [HNN.out]; exact HFEW.out))
              rw [decide_eq_true rfl] at HE1
              clear hrow8 re hrp HP2 HS8 HRW
              rw [HNN.out] at HE1 ⊢
              go_wp2_with fail
              refine HE1.out.mono ?_
              rintro e w9 ⟨rfl, m9, rfl⟩
              have HS10 := hid (HS9.out.step (mod_drewN w8 m9))
              have HRW10 := hid ((mod_drewN w8 m9).rdv HRW8.out (fun _ _ h => h))
              have HAL := hid (all_any (w8.drewN m9) none 0 0 [] rfl (.inl rfl) List.Pairwise.nil a l.length cap l rfl (HS10.out.mod.rdv HRD.out (fun _ _ h => h)) (by simp; omega))
              clear HE1 HS9 HRW8
              go_wp2_with fail
              refine HAL.out.mono ?_
              rintro e w11 ⟨aa, ac, rfl, hra, hma⟩
              have HS11 := hid (HS10.out.step hma)
              have HE2 := hid (same_any6 w11 wa aa i (allL [] l).length wc ac σ.has (allL [] l) HNN.out.symm rfl (hma.rdv HRW10.out (fun _ _ h => h)) hra (by rw [HNN.out]; exact HFEW.out))
              rw [decide_eq_true HAS.out] at HE2
              clear hra hma HAL HS10 HRW10
              go_wp2_with fail
              refine HE2.out.mono ?_
              rintro e w12 ⟨rfl, m12, rfl⟩
              go_wp2_with fail
              go_ret
              exact ⟨rfl, (HS11.out.mod.trans (mod_drewN w11 m12)).below _ (Nat.le_refl _) (fun _ h => h.elim)⟩
    · rw [hz]
      go_wp2_with fail
      go_ret
      exact ⟨rfl, HS5.out.mod.below _ (Nat.le_refl _) (fun _ h => h.elim)⟩
  · rw [decide_eq_false h3]
    go_wp2_with fail
    go_ret
    exact ⟨rfl, HS3.out.mod.below _ (Nat.le_refl _) (fun _ h => h.elim)⟩
end Go.Proofs.Ytdhhpnfdnoaihaa

/-! V5 -/
/- How arguments read: rows of changes, and what the bound says of them. -/
namespace Go.Proofs.Ytdhhpnfdnoaihaa
open Go.RowKit

/-- a string's bytes -/
theorem view_string {H : Type} {s : ByteArray} (h : Small (H := H) 9 (.lit (.string s.data.toList))) : s.size ≤ 140737488351232 := by
  have h1 := h s.data.toList.length (by simp [DataW.weights])
  have h2 : reachBytes = 140737488351232 := by decide
  have h3 : s.data.toList.length = s.size := Array.length_toList
  omega
theorem bulk_one {H : Type} (d : DataW H) : 1 ≤ Rows.uptoBulk d := by
  cases d with
  | lit l => cases l <;> simp [Rows.uptoBulk]
  | nil => simp [Rows.uptoBulk]
  | ptr d => simp [Rows.uptoBulk]
  | slice elems spare => simp [Rows.uptoBulk]
  | agg parts => simp [Rows.uptoBulk]
  | iface t d => simp [Rows.uptoBulk]
  | map entries => simp [Rows.uptoBulk]
  | held h => simp [Rows.uptoBulk]
theorem bulk_part {H : Type} {d : DataW H} {l : List (DataW H)} (h : d ∈ l) : Rows.uptoBulk d ≤ Rows.uptoBulkAll l := by
  induction l with
  | nil => cases h
  | cons x r ih =>
    simp only [Rows.uptoBulkAll]
    cases List.mem_cons.1 h with
    | inl e => subst e; omega
    | inr e => have := ih e; omega
theorem bulk_bound {H : Type} {l : List (DataW H)} (hk : Rows.uptoSmall H l = true) : Rows.uptoBulkAll l ≤ 1048576 := of_decide_eq_true hk
theorem v_und9 : Try.prog.underlying 9 = some .string := by kernel_rfl
theorem v_und73 : Try.prog.underlying 73 = some (.slice 86) := by kernel_rfl
theorem v_und86 : Try.prog.underlying 86 = some (.struct (Try.prog.fieldsOf 86)) := by kernel_rfl
theorem v_f86 : (Try.prog.fieldsOf 86).toList.map (fun f => (f.type, f.offset)) = [(9, 0), (9, 1), (4, 2)] := by kernel_rfl
theorem v_cells86 : Try.prog.cellsOf 86 = 3 := by kernel_rfl
theorem v_cells9 : Try.prog.cellsOf 9 = 1 := by kernel_rfl
section
variable {H : Type} {enc : TypeId × Value → H} {w : World}
theorem str_of (s : ByteArray) : Value.string s = Str s.data.toList := rfl
set_option maxRecDepth 100000 in
theorem trod_change (n : Nat) (cs : List Value) (d : DataW H) (ps : List MemPlace) (h : Rdg enc w n 86 cs = some (d, ps)) : ∃ x : Ch, cs = chC x ∧ wtC x ≤ 5 * Rows.uptoBulk d := by
  obtain ⟨xs, m, _, hx, hl, hsz, hf⟩ := DataW.trod_struct v_und86 h
  rw [v_cells86] at hl
  obtain ⟨f0, e0, t0, o0⟩ := field_of v_f86 0 rfl
  obtain ⟨f1, e1, t1, o1⟩ := field_of v_f86 1 rfl
  obtain ⟨f2, e2, t2, o2⟩ := field_of v_f86 2 rfl
  have hs3 : xs.length = 3 := by
    have := congrArg List.length v_f86
    rw [hsz]; simpa using this
  match xs, hs3, cs, hl with
  | [x0, x1, x2], _, [c0, c1, c2], _ =>
    have g0 := hf 0 f0 (by simpa using e0)
    have g1 := hf 1 f1 (by simpa using e1)
    have g2 := hf 2 f2 (by simpa using e2)
    rw [t0, o0, v_cells9] at g0
    rw [t1, o1, v_cells9] at g1
    rw [t2, o2, v_cells4] at g2
    simp at g0 g1 g2
    obtain ⟨s0, h0, d0, _⟩ := DataW.trod_string v_und9 g0
    obtain ⟨s1, h1, d1, _⟩ := DataW.trod_string v_und9 g1
    obtain ⟨b2, h2, d2⟩ := DataW.trod_bool v_und4 g2
    have hd : d = .agg [x0.1, x1.1, x2.1] := by
      simp at hx; exact hx.1
    refine ⟨⟨s0.data.toList, s1.data.toList, b2⟩, ?_, ?_⟩
    · simp at h0 h1 h2
      rw [h0, h1, h2]
      rfl
    · rw [hd, d0, d1, d2]
      simp only [Rows.uptoBulk, Rows.uptoBulkAll, wtC]
      omega
theorem sum_bulk {f : Nat → Ch} {D : Nat → DataW H} : ∀ (is : List Nat), (∀ i ∈ is, wtC (f i) ≤ 5 * Rows.uptoBulk (D i)) → sumC (is.map f) ≤ 5 * Rows.uptoBulkAll (is.map D)
  | [], _ => by simp [sumC]
  | i :: is, h => by
    have h1 := h i (by simp)
    have h2 := sum_bulk is (fun j hj => h j (by simp [hj]))
    rw [List.map_cons, List.map_cons, sumC_cons, Rows.uptoBulkAll]
    omega
theorem nth_map {f : Nat → Ch} {len i : Nat} (h : i < len) : nth ((List.range len).map f) i = f i := by
  unfold nth
  rw [List.getD_eq_getElem?_getD, List.getElem?_map, List.getElem?_range h]; rfl
theorem view_chs {n : Nat} {v : Value} {d : DataW H} {ps : List MemPlace} (h : Rdg enc w n 73 v.cells.toList = some (d, ps)) (hk : Rows.uptoBulk d ≤ 1048576) (hv : ∃ a l c, v = .slice a l c) : ∃ l, VChs w v l := by
  obtain ⟨a, len, cap, rfl⟩ := hv
  rcases Deep.open_slice v_und73 h with ⟨hcs, _⟩ | ⟨a', l', c', m, n', D, Pl, hcs, _, hl, hm, hmm, hx, hel⟩
  · simp [Value.cells] at hcs
    obtain ⟨rfl, rfl, rfl⟩ := hcs
    exact ⟨[], none, 0, rfl, .inl rfl, by decide⟩
  · simp [Value.cells] at hcs
    obtain ⟨rfl, rfl, rfl⟩ := hcs
    simp only [if_true] at hmm
    subst hmm
    simp only [Prod.mk.injEq] at hx
    obtain ⟨rfl, _⟩ := hx
    have hall : ∀ i, i < len → ∃ x : Ch, wtC x ≤ 5 * Rows.uptoBulk (D i) ∧ ∀ j, j < 3 → w.cell? (a'.add (i * 3 + j)) = (chC x)[j]? := by
      intro i hi
      obtain ⟨cs', h1, h2⟩ := hel i (by omega)
      rw [v_cells86] at h1
      obtain ⟨_, _, hcell⟩ := World.cells?_some h1
      obtain ⟨x, rfl, hx⟩ := trod_change _ _ _ _ h2
      exact ⟨x, hx, fun j hj => by rw [← hcell j hj, Deep.add_add]⟩
    obtain ⟨f, hf⟩ := Deep.choose_lt hall
    have hsum := sum_bulk (f := f) (D := D) (List.range len) (fun i hi => (hf i (by simpa using hi)).1)
    refine ⟨(List.range len).map f, some a', m, by simp, ?_, ?_⟩
    · by_cases h0 : len = 0
      · left; simp [h0, rowC]
      · obtain ⟨b, o, sp⟩ := a'
        have hsp : sp = none := by
          have := (hf 0 (by omega)).2 0 (by omega)
          have h1 : (chC (f 0))[0]? = some (Str (f 0).key) := rfl
          rw [Nat.zero_mul, Nat.add_zero, h1] at this
          have := World.cell?_spot this
          simpa [Addr.add] using this
        subst hsp
        refine .inr ⟨b, o, rfl, fun t ht => ?_⟩
        rw [rowC_length, List.length_map, List.length_range] at ht
        have hi : t / 3 < len := by omega
        have hc := (hf (t / 3) hi).2 (t % 3) (Nat.mod_lt _ (by omega))
        rw [add_mk, show t / 3 * 3 + t % 3 = t by omega] at hc
        rw [hc]
        obtain ⟨k0, k1, k2⟩ := rowC_at ((List.range len).map f) (t / 3) (by simpa using hi)
        rw [nth_map hi] at k0 k1 k2
        rcases (show t % 3 = 0 ∨ t % 3 = 1 ∨ t % 3 = 2 by omega) with h3 | h3 | h3
        · rw [h3]
          rw [show t / 3 * 3 = t by omega] at k0
          rw [k0]; rfl
        · rw [h3]
          rw [show t / 3 * 3 + 1 = t by omega] at k1
          rw [k1]; rfl
        · rw [h3]
          rw [show t / 3 * 3 + 2 = t by omega] at k2
          rw [k2]; rfl
    · rw [wtL_sum]
      have : Rows.uptoBulkAll ((List.range len).map D) + 1 ≤ Rows.uptoBulk (DataW.slice ((List.range len).map D) ((List.range (m - len)).map fun j => D (len + j))) := by
        simp only [Rows.uptoBulk]; omega
      omega
end
end Go.Proofs.Ytdhhpnfdnoaihaa

/-! T8 -/
/- The document's Digits, Int, Text, Bool. -/
namespace Go.Proofs.Ytdhhpnfdnoaihaa
open Go.RowKit

theorem rd_one (w : World) (z : Int) (b : UInt8) (hz : z = (b.toNat : Int)) : Rd (w.alloc (.cells #[.int .u8 z] 5)) (some ⟨w.heap.size, 0, none⟩) [b] := by
  subst hz
  exact rd_lit w _ [b] rfl (0, 0) _ rfl
set_option maxRecDepth 100000 in
set_option maxHeartbeats 1600000 in
theorem digits_any (w : World) (n : Int) (hn : 0 ≤ n ∧ n < 9223372036854775808) : Calls Try.prog 91 #[.int .i64 n] w (RowPost (be8 n) w) := by
  have hu : IntKind.u64.wrap n = n := by simp [IntKind.wrap, IntKind.bits, IntKind.signed]; omega
  go_enter Try.func91, Try.ntmps91
  go_wp2_with fail
  go_loopw [3, 4] (fun v i wr => ∃ (k : Nat) (va : Option Addr) (vc : Nat), k ≤ 8 ∧ i = .int .i64 k ∧ v = .slice va k vc ∧ Hid (OwnB wr w.heap.size (.slice va k vc) ((be8 n).take k)) ∧ Hid (Mod None w wr)) (fun _ i _ => 8 - (intOf i).toNat)
  case atStart => exact ⟨0, none, 0, by omega, rfl, rfl, OwnB.nil _ _, Mod.refl _ _⟩
  case round =>
    obtain ⟨k, va, vc, hk, rfl, rfl, ho, hm⟩ := hrel
    by_cases hlt : k < 8
    · rcases (show k = 0 ∨ k = 1 ∨ k = 2 ∨ k = 3 ∨ k = 4 ∨ k = 5 ∨ k = 6 ∨ k = 7 by omega) with rfl | rfl | rfl | rfl | rfl | rfl | rfl | rfl
      · go_wp2_with (at_builtin; first | (refine wpList_append_b2 rfl (.tmp 9) (.tmp 18) rfl w.heap.size _ ((be8 n).take 0) rfl (ho.out.kept ((Mod.refl None wr).alloc _) (fun _ _ e => e)) (some ⟨wr.heap.size, 0, none⟩) [byt (n / 72057594037927936)] 1 1 rfl rfl (rd_one wr _ _ (by rw [byt_nat] <;> omega)) (by simp [be8]) (Nat.le_trans hm.out.size (by simp)) ((be8 n).take 1) rfl 1 rfl None w (hm.out.alloc _) (Nat.le_refl _) ?_; intro va2 vc2 w2 HO HG))
        go_roundw
        case rel => exact ⟨1, va2, vc2, by omega, by go_num, rfl, HO.out, HG.out⟩
        case measure => simp [intOf]
      · go_wp2_with (at_builtin; first | (refine wpList_append_b2 rfl (.tmp 9) (.tmp 18) rfl w.heap.size _ ((be8 n).take 1) rfl (ho.out.kept ((Mod.refl None wr).alloc _) (fun _ _ e => e)) (some ⟨wr.heap.size, 0, none⟩) [byt (n / 281474976710656)] 1 1 rfl rfl (rd_one wr _ _ (by rw [byt_nat] <;> omega)) (by simp [be8]) (Nat.le_trans hm.out.size (by simp)) ((be8 n).take 2) rfl 2 rfl None w (hm.out.alloc _) (Nat.le_refl _) ?_; intro va2 vc2 w2 HO HG))
        go_roundw
        case rel => exact ⟨2, va2, vc2, by omega, by go_num, rfl, HO.out, HG.out⟩
        case measure => simp [intOf]
      · go_wp2_with (at_builtin; first | (refine wpList_append_b2 rfl (.tmp 9) (.tmp 18) rfl w.heap.size _ ((be8 n).take 2) rfl (ho.out.kept ((Mod.refl None wr).alloc _) (fun _ _ e => e)) (some ⟨wr.heap.size, 0, none⟩) [byt (n / 1099511627776)] 1 1 rfl rfl (rd_one wr _ _ (by rw [byt_nat] <;> omega)) (by simp [be8]) (Nat.le_trans hm.out.size (by simp)) ((be8 n).take 3) rfl 3 rfl None w (hm.out.alloc _) (Nat.le_refl _) ?_; intro va2 vc2 w2 HO HG))
        go_roundw
        case rel => exact ⟨3, va2, vc2, by omega, by go_num, rfl, HO.out, HG.out⟩
        case measure => simp [intOf]
      · go_wp2_with (at_builtin; first | (refine wpList_append_b2 rfl (.tmp 9) (.tmp 18) rfl w.heap.size _ ((be8 n).take 3) rfl (ho.out.kept ((Mod.refl None wr).alloc _) (fun _ _ e => e)) (some ⟨wr.heap.size, 0, none⟩) [byt (n / 4294967296)] 1 1 rfl rfl (rd_one wr _ _ (by rw [byt_nat] <;> omega)) (by simp [be8]) (Nat.le_trans hm.out.size (by simp)) ((be8 n).take 4) rfl 4 rfl None w (hm.out.alloc _) (Nat.le_refl _) ?_; intro va2 vc2 w2 HO HG))
        go_roundw
        case rel => exact ⟨4, va2, vc2, by omega, by go_num, rfl, HO.out, HG.out⟩
        case measure => simp [intOf]
      · go_wp2_with (at_builtin; first | (refine wpList_append_b2 rfl (.tmp 9) (.tmp 18) rfl w.heap.size _ ((be8 n).take 4) rfl (ho.out.kept ((Mod.refl None wr).alloc _) (fun _ _ e => e)) (some ⟨wr.heap.size, 0, none⟩) [byt (n / 16777216)] 1 1 rfl rfl (rd_one wr _ _ (by rw [byt_nat] <;> omega)) (by simp [be8]) (Nat.le_trans hm.out.size (by simp)) ((be8 n).take 5) rfl 5 rfl None w (hm.out.alloc _) (Nat.le_refl _) ?_; intro va2 vc2 w2 HO HG))
        go_roundw
        case rel => exact ⟨5, va2, vc2, by omega, by go_num, rfl, HO.out, HG.out⟩
        case measure => simp [intOf]
      · go_wp2_with (at_builtin; first | (refine wpList_append_b2 rfl (.tmp 9) (.tmp 18) rfl w.heap.size _ ((be8 n).take 5) rfl (ho.out.kept ((Mod.refl None wr).alloc _) (fun _ _ e => e)) (some ⟨wr.heap.size, 0, none⟩) [byt (n / 65536)] 1 1 rfl rfl (rd_one wr _ _ (by rw [byt_nat] <;> omega)) (by simp [be8]) (Nat.le_trans hm.out.size (by simp)) ((be8 n).take 6) rfl 6 rfl None w (hm.out.alloc _) (Nat.le_refl _) ?_; intro va2 vc2 w2 HO HG))
        go_roundw
        case rel => exact ⟨6, va2, vc2, by omega, by go_num, rfl, HO.out, HG.out⟩
        case measure => simp [intOf]
      · go_wp2_with (at_builtin; first | (refine wpList_append_b2 rfl (.tmp 9) (.tmp 18) rfl w.heap.size _ ((be8 n).take 6) rfl (ho.out.kept ((Mod.refl None wr).alloc _) (fun _ _ e => e)) (some ⟨wr.heap.size, 0, none⟩) [byt (n / 256)] 1 1 rfl rfl (rd_one wr _ _ (by rw [byt_nat] <;> omega)) (by simp [be8]) (Nat.le_trans hm.out.size (by simp)) ((be8 n).take 7) rfl 7 rfl None w (hm.out.alloc _) (Nat.le_refl _) ?_; intro va2 vc2 w2 HO HG))
        go_roundw
        case rel => exact ⟨7, va2, vc2, by omega, by go_num, rfl, HO.out, HG.out⟩
        case measure => simp [intOf]
      · go_wp2_with (at_builtin; first | (refine wpList_append_b2 rfl (.tmp 9) (.tmp 18) rfl w.heap.size _ ((be8 n).take 7) rfl (ho.out.kept ((Mod.refl None wr).alloc _) (fun _ _ e => e)) (some ⟨wr.heap.size, 0, none⟩) [byt (n)] 1 1 rfl rfl (rd_one wr _ _ (by rw [byt_nat] <;> omega)) (by simp [be8]) (Nat.le_trans hm.out.size (by simp)) ((be8 n).take 8) rfl 8 rfl None w (hm.out.alloc _) (Nat.le_refl _) ?_; intro va2 vc2 w2 HO HG))
        go_roundw
        case rel => exact ⟨8, va2, vc2, by omega, by go_num, rfl, HO.out, HG.out⟩
        case measure => simp [intOf]
    · obtain rfl : k = 8 := by omega
      have hlt' : ¬ ((8 : Nat) : Int) < 8 := by omega
      rw [show (be8 n).take 8 = be8 n from rfl] at ho
      go_wp2_with fail
      go_ret
      exact ⟨va, vc, rfl, ho.out, hm.out⟩
/-- bytes, of which only the number is told -/
def LenR (n : Nat) (w : World) (e : Ending) (w' : World) : Prop := ∃ l : List UInt8, l.length = n ∧ RowPost l w e w'
set_option maxRecDepth 100000 in
theorem refint_any (w : World) (n : Int) (hn : 0 ≤ n ∧ n < 9223372036854775808) : Calls Try.prog 113 #[.slice none 0 0, .int .i64 n] w (RowPost (be8 n) w) := by
  have HD := hid (fun w => digits_any w n hn)
  have HL := hid (be8_len n)
  generalize be8 n = d at *
  go_enter Try.func113, Try.ntmps113
  go_wp2_with (at_builtin; first | (refine wpList_append_b2 rfl (.tmp 6) (.tmp 7) rfl w.heap.size _ [] rfl (OwnB.nil _ _) none [] 0 0 rfl rfl (.inl rfl) (by simp) (Nat.le_refl _) [] rfl 0 rfl None w (Mod.refl _ _) (Nat.le_refl _) ?_; intro va vc w2 HO HG))
  refine (HD.out _).mono ?_
  rintro e w3 ⟨a3, c3, rfl, ho3, hm3⟩
  rw [HL.out] at ho3 ⊢
  have HO3 := hid ho3
  have HO2 := hid (HO.out.kept hm3 (fun _ _ e => e))
  have HM3 := hid (HG.out.trans hm3)
  obtain ⟨ra, rc, re, hrd⟩ := ho3.rd
  rw [HL.out] at re
  obtain ⟨rfl, rfl⟩ : a3 = ra ∧ c3 = rc := by injection re with e1 e2 e3; exact ⟨e1, e3⟩
  have HRD := hid hrd
  clear ho3 hm3 re hrd HO HG
  go_wp2_with (at_builtin; first | (refine wpList_append_b2 rfl (.tmp 9) (.tmp 11) rfl w.heap.size _ [] rfl HO2.out a3 d 8 c3 HL.out.symm rfl HRD.out (by simp [HL.out]) HM3.out.size d rfl 8 HL.out.symm None w HM3.out (Nat.le_refl _) ?_; intro va4 vc4 w4 HO4 HG4))
  go_ret
  exact ⟨va4, vc4, by rw [HL.out]; rfl, by rw [HL.out]; exact HO4.out, HG4.out⟩
set_option maxRecDepth 100000 in
theorem reftext_any (w : World) (s : List UInt8) (hs : s.length ≤ 100000000) : Calls Try.prog 92 #[.slice none 0 0, Str s] w (LenR (8 + s.length) w) := by
  have HP := hid (refint_any w s.length (by omega))
  have HS := hid (str_size s)
  have HSC := hid (strCells_B s)
  obtain ⟨i, hi, hz, hsz, hby⟩ := info_parts l_info5
  unfold Str
  have hls : ((⟨s.toArray⟩ : ByteArray).size : Int) = (s.length : Int) := by rw [HS.out]
  have HIX := hid (And.intro hi (And.intro hz (And.intro hsz hby)))
  clear hi hz hsz hby
  go_enter Try.func92, Try.ntmps92
  go_wp2_with fail
  refine HP.out.mono ?_
  rintro e w1 ⟨a1, c1, rfl, ho1, hm1⟩
  have H1 := hid ho1
  have HM1 := hid hm1
  have HL := hid (be8_len (s.length : Int))
  rw [HL.out]
  have hO : Hid (w1.ownsRow 0 5 1 (.slice a1 8 c1) 8 ((be8 (s.length : Int)).map B)) := by
    have := ho1.base (Nat.zero_le _)
    exact this
  clear ho1 hm1 HP
  generalize be8 (s.length : Int) = h8 at *
  go_wp2_with (at_builtin; go_loud (refine wpList_plain rfl (fun K hK => wp_append_S (.tmp 8) (.tmp 9) 27 9 rfl 5 i und27 und9 HIX.out.1 HIX.out.2.1 HIX.out.2.2.1 HIX.out.2.2.2 _ 8 _ rfl hO.out _ rfl (by rw [HS.out]; unfold maxLen; omega) (by rw [HS.out]; omega) (fun va vc w' h2 h3 h4 => hK _ _ ?_))))
  go_ret
  rw [HS.out, HSC.out] at h2
  rw [HS.out] at h4
  have e : (h8 ++ s).length = 8 + s.length := by rw [List.length_append, HL.out]
  have H9 : OwnB w1 w.heap.size (.slice a1 8 c1) h8 := by have := H1.out; rw [HL.out] at this; exact this
  refine ⟨h8 ++ s, e, va, vc, by rw [e]; rfl, ?_, HM1.out.then h3.out (fun k hk hg => ?_)⟩
  · have hh : ∀ g, (Value.slice va (8 + s.length) vc).ownBlock = some g → w.heap.size ≤ g := fun g hg => by
      rcases h4.out g hg with h | h
      · exact (H9.lt g h).1
      · exact Nat.le_trans HM1.out.size h.1
    exact ownb_of h2.out HL.out.symm rfl hh
  · have := (H9.lt k hg).1; omega
set_option maxRecDepth 100000 in
theorem refbool_any (w : World) (b : Bool) : Calls Try.prog 93 #[.slice none 0 0, .bool b] w (LenR 1 w) := by
  cases b with
  | true =>
    go_enter Try.func93, Try.ntmps93
    go_wp2_with (at_builtin; first | (refine wpList_append_b2 rfl (.tmp 6) (.tmp 7) rfl w.heap.size _ [] rfl (OwnB.nil _ _) none [] 0 0 rfl rfl (.inl rfl) (by simp) (Nat.le_refl _) [] rfl 0 rfl None w (Mod.refl _ _) (Nat.le_refl _) ?_; intro va vc w2 HO HG) | (refine wpList_append_b2 rfl (.tmp 10) (.tmp 11) rfl w.heap.size _ [] rfl (HO.out.kept ((Mod.refl None w2).alloc _) (fun _ _ e => e)) (some ⟨w2.heap.size, 0, none⟩) [1] 1 1 rfl rfl (rd_one w2 _ 1 rfl) (by simp) (Nat.le_trans HG.out.size (by simp)) [1] rfl 1 rfl None w (HG.out.alloc _) (Nat.le_refl _) ?_; intro va3 vc3 w3 HO3 HG3))
    go_ret
    exact ⟨[1], rfl, va3, vc3, rfl, HO3.out, HG3.out⟩
  | false =>
    go_enter Try.func93, Try.ntmps93
    go_wp2_with (at_builtin; first | (refine wpList_append_b2 rfl (.tmp 6) (.tmp 7) rfl w.heap.size _ [] rfl (OwnB.nil _ _) none [] 0 0 rfl rfl (.inl rfl) (by simp) (Nat.le_refl _) [] rfl 0 rfl None w (Mod.refl _ _) (Nat.le_refl _) ?_; intro va vc w2 HO HG) | (refine wpList_append_b2 rfl (.tmp 13) (.tmp 14) rfl w.heap.size _ [] rfl (HO.out.kept ((Mod.refl None w2).alloc _) (fun _ _ e => e)) (some ⟨w2.heap.size, 0, none⟩) [0] 1 1 rfl rfl (rd_one w2 _ 0 rfl) (by simp) (Nat.le_trans HG.out.size (by simp)) [0] rfl 1 rfl None w (HG.out.alloc _) (Nat.le_refl _) ?_; intro va3 vc3 w3 HO3 HG3))
    go_ret
    exact ⟨[0], rfl, va3, vc3, rfl, HO3.out, HG3.out⟩
end Go.Proofs.Ytdhhpnfdnoaihaa

/-! T9 -/
/- How many bytes the document's Bytes tells. -/
namespace Go.Proofs.Ytdhhpnfdnoaihaa
open Go.RowKit

def lenC (c : Ch) : Nat := 8 + c.key.length + 1 + (if c.gone then 0 else 8 + c.val.length)
theorem encC_lenC (c : Ch) : (encC c).length = lenC c := by
  unfold encC lenC
  cases c.gone <;> simp [be8_len] <;> omega
def lenL (l : List Ch) (k : Nat) : Nat := 8 + ((l.take k).map lenC).sum
theorem lenL_all (l : List Ch) : (encL l).length = lenL l l.length := by
  unfold encL lenL
  rw [List.length_append, be8_len, List.length_flatMap, List.take_length]
  congr 1
  congr 1
  exact List.map_congr_left (fun c _ => encC_lenC c)
theorem lenL_succ {l : List Ch} {k : Nat} (h : k < l.length) : lenL l (k + 1) = lenL l k + lenC (nth l k) := by
  unfold lenL
  rw [take_succ_ch h, List.map_append, List.sum_append]
  simp
  omega
theorem lenL_le {l : List Ch} {k : Nat} : lenL l k ≤ wtL l := by
  have h1 := encL_len (l.take k)
  have h2 := wtL_take l k
  have h3 := lenL_all (l.take k)
  have h4 : lenL (l.take k) (l.take k).length = lenL l k := by
    unfold lenL
    rw [List.take_length]
  omega
/-- the bytes so far -/
def BRow (w wr : World) (a : Option Addr) (c n : Nat) : Prop := ∃ bs : List UInt8, bs.length = n ∧ OwnB wr w.heap.size (.slice a n c) bs ∧ Mod None w wr
theorem BRow.keep {w wr wq : World} {a : Option Addr} {c n : Nat} (h : BRow w wr a c n) (hm : Mod None wr wq) : BRow w wq a c n := by
  obtain ⟨bs, h1, h2, h3⟩ := h
  exact ⟨bs, h1, h2.kept hm (fun _ _ e => e), h3.trans hm⟩
theorem BRow.app {w wr : World} {a : Option Addr} {c n m : Nat} (h : BRow w wr a c n) {sa : Option Addr} {sc : Nat} {ms : List UInt8} (hm : ms.length = m) (hr : Rd wr sa ms) (hb : n + m ≤ 140737488355328) {ops : Array Oper} {rest : List Oper} {o : Oper} {A : Act} {Q : Exit → Act → World → Prop} (hgd : o.guard = none) (s x : Operand)
    (ho : o.op = .call { callee := .builtin .append, args := #[s, x], argTypes := #[27, 27] }) (hs : A.eval s = .slice a n c) (hx : A.eval x = .slice sa m sc)
    (k : ∀ va vc w', Hid (BRow w w' va vc (n + m)) → wpList Try.prog ops Q rest (A.put o.dst (.slice va (n + m) vc)) w') : wpList Try.prog ops Q (o :: rest) A wr := by
  obtain ⟨bs, h1, h2, h3⟩ := h
  refine wpList_append_b2 hgd s x ho w.heap.size _ bs hs h2 sa ms m sc hm.symm hx hr (by omega) h3.size (bs ++ ms) rfl (n + m) (by rw [List.length_append]; omega) None w h3 (Nat.le_refl _) (fun va vc w' g1 g2 => k va vc w' ⟨bs ++ ms, by rw [List.length_append]; omega, g1.out, g2.out⟩)
/-- what a LenR leaves -/
theorem lenR_rd {n : Nat} {w w' : World} {e : Ending} (h : LenR n w e w') : ∃ (a : Option Addr) (c : Nat) (l : List UInt8), e = .returned (.slice a n c) ∧ l.length = n ∧ Rd w' a l ∧ Mod None w w' := by
  obtain ⟨l, h1, a, c, he, ho, hm⟩ := h
  obtain ⟨a', c', e', hr⟩ := ho.rd
  obtain ⟨rfl, rfl⟩ : a = a' ∧ c = c' := by injection e' with e1 e2 e3; exact ⟨e1, e3⟩
  exact ⟨a, c, l, by rw [he, h1], h1, hr, hm⟩
set_option maxRecDepth 100000 in
set_option maxHeartbeats 3200000 in
theorem refbytes_any (w : World) (a : Option Addr) (n c : Nat) (l : List Ch) (hn : n = l.length) (hr : RdV w a (rowC l)) (hw : wtL l ≤ 100000000) : Calls Try.prog 55 #[.slice a n c] w (LenR (encL l).length w) := by
  have HR := hid hr
  have HN := hid hn
  have HLE := hid (fun k => lenL_le (l := l) (k := k))
  have HW := hid hw
  have hn6 : n ≤ 100000000 := by have := len_wt l; omega
  have HD := hid (digits_any w (n : Int) (by omega))
  have HL8 := hid (be8_len (n : Int))
  have H0 := hid (show lenL l 0 = 8 by unfold lenL; simp)
  have HEN := hid (lenL_all l)
  clear hr hn hw
  go_enter Try.func55, Try.ntmps55
  go_wp2_with fail
  refine HD.out.mono ?_
  rintro e w1 ⟨a1, c1, rfl, ho1, hm1⟩
  rw [HL8.out] at ho1 ⊢
  have HB1 := hid (show BRow w w1 a1 c1 8 from ⟨_, HL8.out, ho1, hm1⟩)
  clear ho1 hm1 HD
  go_wp2_with fail
  go_loopw [3, 4] (fun v i wr => ∃ (k : Nat) (va : Option Addr) (vc : Nat), k ≤ n ∧ i = .int .i64 k ∧ v = .slice va (lenL l k) vc ∧ Hid (BRow w wr va vc (lenL l k))) (fun _ i _ => n - (intOf i).toNat)
  case atStart => exact ⟨0, a1, c1, by omega, rfl, by rw [H0.out], by rw [H0.out]; exact HB1.out⟩
  case round =>
    obtain ⟨k, va, vc, hk, rfl, rfl, h1⟩ := hrel
    by_cases hlt : k < n
    · have hlt' : (k : Int) < (n : Int) := by omega
      have hkl : k < l.length := by have := HN.out; omega
      have HMW := hid (show Mod None w wr from by obtain ⟨_, _, _, h⟩ := h1.out; exact h)
      obtain ⟨b, o, rfl, e1, e2, e3⟩ := rd_ch HR.out hkl
      have HE0 := hid (And.intro e1 (And.intro e2 e3))
      have HS := hid (lenL_succ hkl)
      have hat := at_wt hkl
      have HX := hid (show wtC (nth l k) = 17 + (nth l k).key.length + (nth l k).val.length from rfl)
      have HC := hid (show lenC (nth l k) = 8 + (nth l k).key.length + 1 + (if (nth l k).gone then 0 else 8 + (nth l k).val.length) from rfl)
      have hle := HLE.out k
      have hX := HX.out
      have hW := HW.out
      generalize nth l k = x at *
      generalize lenL l k = N at *
      generalize wtC x = wx at *
      have hkx : x.key.length ≤ 100000000 := by omega
      have hvx : x.val.length ≤ 100000000 := by omega
      have hN6 : N ≤ 100000000 := by omega
      have HPT := hid (fun w => reftext_any w x.key hkx)
      have HPV := hid (fun w => reftext_any w x.val hvx)
      obtain ⟨e1, e2, e3⟩ := held3 e1 e2 e3 HMW.out
      unfold Str at HPT HPV
      clear hat hle hX HX
      go_wp2_with fail
      refine (HPT.out _).mono ?_
      intro e w2 hp2
      obtain ⟨a2, c2, m2, rfl, hl2, hr2, hm2⟩ := lenR_rd hp2
      have HB2 := hid (h1.out.keep hm2)
      have HR2 := hid hr2
      have HM2 := hid (HMW.out.trans hm2)
      clear hp2 hr2 hm2 e1 e2 e3
      go_wp2_with (at_builtin; first | (refine HB2.out.app hl2 HR2.out (by omega) rfl (.tmp 14) (.tmp 20) rfl rfl rfl ?_; intro va3 vc3 w3 HB3; have HM3 := hid (show Mod None w w3 from by obtain ⟨_, _, _, h⟩ := HB3.out; exact h); obtain ⟨e1, e2, e3⟩ := held3 HE0.out.1 HE0.out.2.1 HE0.out.2.2 HM3.out))
      refine (refbool_any _ x.gone).mono ?_
      intro e w4 hp4
      obtain ⟨a4, c4, m4, rfl, hl4, hr4, hm4⟩ := lenR_rd hp4
      have HB4 := hid (HB3.out.keep hm4)
      have HR4 := hid hr4
      clear hp4 hr4 e1 e2 e3
      cases hg : x.gone with
      | true =>
        rw [hg, if_pos rfl] at HC
        go_wp2_with (at_builtin; first | (refine HB4.out.app hl4 HR4.out (by omega) rfl (.tmp 22) (.tmp 28) rfl rfl rfl ?_; intro va5 vc5 w5 HB5; have HM5 := hid (show Mod None w w5 from by obtain ⟨_, _, _, h⟩ := HB5.out; exact h); obtain ⟨e1, e2, e3⟩ := held3 HE0.out.1 HE0.out.2.1 HE0.out.2.2 HM5.out; rw [hg] at e3))
        go_roundw
        case rel => exact ⟨k + 1, va5, vc5, by omega, by go_num, by rw [HS.out, HC.out]; simp; omega, by rw [HS.out, HC.out, show N + (8 + x.key.length + 1 + 0) = N + (8 + x.key.length) + 1 by omega]; exact HB5.out⟩
        case measure => simp [intOf]; omega
      | false =>
        rw [hg, if_neg (by simp)] at HC
        go_wp2_with (at_builtin; first | (refine HB4.out.app hl4 HR4.out (by omega) rfl (.tmp 22) (.tmp 28) rfl rfl rfl ?_; intro va5 vc5 w5 HB5; have HM5 := hid (show Mod None w w5 from by obtain ⟨_, _, _, h⟩ := HB5.out; exact h); obtain ⟨e1, e2, e3⟩ := held3 HE0.out.1 HE0.out.2.1 HE0.out.2.2 HM5.out; rw [hg] at e3))
        refine (HPV.out _).mono ?_
        intro e w6 hp6
        obtain ⟨a6, c6, m6, rfl, hl6, hr6, hm6⟩ := lenR_rd hp6
        have HB6 := hid (HB5.out.keep hm6)
        have HR6 := hid hr6
        clear hp6 hr6 e1 e2 e3
        go_wp2_with (at_builtin; first | (refine HB6.out.app hl6 HR6.out (by omega) rfl (.tmp 36) (.tmp 42) rfl rfl rfl ?_; intro va7 vc7 w7 HB7))
        go_roundw
        case rel => exact ⟨k + 1, va7, vc7, by omega, by go_num, by rw [HS.out, HC.out]; simp; omega, by rw [HS.out, HC.out, show N + (8 + x.key.length + 1 + (8 + x.val.length)) = N + (8 + x.key.length) + 1 + (8 + x.val.length) by omega]; exact HB7.out⟩
        case measure => simp [intOf]; omega
    · obtain rfl : k = n := by omega
      have hlt' : ¬ (k : Int) < (k : Int) := by omega
      have HE := hid (show (encL l).length = lenL l k by rw [HEN.out, HN.out])
      obtain ⟨bs, g1, g2, g3⟩ := h1.out
      go_wp2_with fail
      go_ret
      exact ⟨bs, by rw [HE.out, g1], va, vc, by rw [g1]; rfl, by rw [g1]; exact g2, g3⟩
end Go.Proofs.Ytdhhpnfdnoaihaa

/-! T10 -/
/- The document's Under. -/
namespace Go.Proofs.Ytdhhpnfdnoaihaa
open Go.RowKit

theorem pre_len {p k : List UInt8} (h : p.isPrefixOf k = true) : p.length ≤ k.length := by
  rw [List.isPrefixOf_iff_prefix] at h
  exact h.length_le
theorem under_succ {l : List Ch} {p : List UInt8} {k : Nat} (h : k < l.length) : underL (l.take (k + 1)) p = underL (l.take k) p ++ (if p.isPrefixOf (nth l k).key = true then [nth l k] else []) := by
  unfold underL
  rw [take_succ_ch h, List.filter_append]
  congr 1
  by_cases hp : p.isPrefixOf (nth l k).key = true
  · rw [if_pos hp, List.filter_cons_of_pos (p := fun c : Ch => p.isPrefixOf c.key) hp]; rfl
  · rw [if_neg hp, List.filter_cons_of_neg (p := fun c : Ch => p.isPrefixOf c.key) hp]; rfl
theorem under_few (l : List Ch) (p : List UInt8) : (underL l p).length ≤ l.length := List.length_filter_le _ _
theorem cut_pre {k p : List UInt8} (h : p.length ≤ k.length) : (((⟨k.toArray⟩ : ByteArray).extract 0 p.length).toList == p) = p.isPrefixOf k := by
  rw [Go.Lib.extract_toList]
  have := Go.Lib.hasPrefix_of_take k p
  unfold Go.Lib.hasPrefix at this
  rw [← this, decide_eq_true h]
  simp
set_option maxRecDepth 100000 in
set_option maxHeartbeats 1600000 in
theorem refunder_any (w : World) (a : Option Addr) (n c : Nat) (l : List Ch) (hn : n = l.length) (hr : RdV w a (rowC l)) (hfew : l.length ≤ 1000000) (p : List UInt8) : Calls Try.prog 59 #[.slice a n c, Str p] w (CPostR 86 w (underL l p)) := by
  have HR := hid hr
  have HN := hid hn
  have HS := hid (str_size p)
  have hn6 : n ≤ 1000000 := by omega
  clear hr hn hfew
  obtain ⟨it, hit, hz, hsz, hby⟩ := info_parts s_info86
  have HIX := hid (And.intro hit (And.intro hz (And.intro hsz hby)))
  clear hit hz hsz hby
  unfold Str
  have hps : ((⟨p.toArray⟩ : ByteArray).size : Int) = (p.length : Int) := by rw [HS.out]
  go_enter Try.func59, Try.ntmps59
  go_wp2_with fail
  go_loopw [5, 6] (fun v i wr => ∃ (k : Nat) (va : Option Addr) (vc : Nat), k ≤ n ∧ i = .int .i64 k ∧ v = .slice va (underL (l.take k) p).length vc ∧ Hid (CRow 86 w wr (.slice va (underL (l.take k) p).length vc) (underL (l.take k) p))) (fun _ i _ => n - (intOf i).toNat)
  case atStart => exact ⟨0, none, 0, by omega, rfl, by rw [List.take_zero]; rfl, by rw [List.take_zero]; exact CRow.nil 86 w⟩
  case round =>
    obtain ⟨k, va, vc, hk, rfl, rfl, h1⟩ := hrel
    by_cases hlt : k < n
    · have hlt' : (k : Int) < (n : Int) := by omega
      have hkl : k < l.length := by have := HN.out; omega
      obtain ⟨b, o, rfl, e1, e2, e3⟩ := rd_ch (h1.out.mod.rdv HR.out (fun _ _ h => h)) hkl
      have HU := hid (under_succ (p := p) hkl)
      have HFEW := hid (show (underL (l.take k) p).length ≤ k from Nat.le_trans (under_few _ _) (by rw [List.length_take]; omega))
      generalize underL (l.take k) p = L at *
      generalize nth l k = x at *
      have HSX := hid (str_size x.key)
      have hxs : ((⟨x.key.toArray⟩ : ByteArray).size : Int) = (x.key.length : Int) := by rw [HSX.out]
      unfold Str at e1 e2
      have hfew2 : L.length ≤ 1000000 := by have := HFEW.out; omega
      by_cases hp : p.isPrefixOf x.key = true
      · have hle := pre_len hp
        have hle' : (p.length : Int) ≤ (x.key.length : Int) := by omega
        have hcp := cut_pre hle
        rw [hp] at hcp
        rw [if_pos hp] at HU
        go_wp2_with (at_builtin; first | (refine wpList_plain rfl (fun K hK => wp_append_R (.tmp 34) (.tmp 39) 73 rfl 86 it chZ 3 40 s_und73 HIX.out.1 HIX.out.2.1 HIX.out.2.2.1 HIX.out.2.2.2 rfl (by decide) _ _ _ rfl (h1.out.own_at rfl (Mod.refl None wr) _) _ 1 1 (chC x) rfl rfl (one_src _ 86 x) (ch_ones x) (by unfold maxLen; omega) (by omega) (fun vx vxc w3 g2 g3 g4 => hK _ _ ?_)); have HC1 := hid (h1.out.snoc_at rfl (Mod.refl None wr) g2.out g3.out g4.out); clear g2 g3 g4))
        go_roundw
        case rel => exact ⟨k + 1, vx, vxc, by omega, by go_num, by rw [HU.out, len1], by rw [HU.out, len1]; exact HC1.out⟩
        case measure => simp [intOf]; omega
      · have HU2 := hid (show underL (l.take (k + 1)) p = L by rw [HU.out, if_neg hp]; simp)
        by_cases hle : p.length ≤ x.key.length
        · have hle' : (p.length : Int) ≤ (x.key.length : Int) := by omega
          have hcp := cut_pre hle
          rw [Bool.not_eq_true] at hp
          rw [hp] at hcp
          go_wp2_with fail
          go_roundw
          case rel => exact ⟨k + 1, va, vc, by omega, by go_num, by rw [HU2.out], by rw [HU2.out]; exact h1.out⟩
          case measure => simp [intOf]; omega
        · have hle' : ¬ (p.length : Int) ≤ (x.key.length : Int) := by omega
          go_wp2_with fail
          go_roundw
          case rel => exact ⟨k + 1, va, vc, by omega, by go_num, by rw [HU2.out], by rw [HU2.out]; exact h1.out⟩
          case measure => simp [intOf]; omega
    · obtain rfl : k = n := by omega
      have hlt' : ¬ (k : Int) < (k : Int) := by omega
      have HE := hid (show l.take k = l by rw [HN.out, List.take_length])
      rw [HE.out] at h1 ⊢
      go_wp2_with fail
      go_ret
      exact ⟨va, vc, rfl, h1.out⟩
end Go.Proofs.Ytdhhpnfdnoaihaa

/-! T11 -/
/- The walk of StoreFinds. -/
namespace Go.Proofs.Ytdhhpnfdnoaihaa
open Go.RowKit

/-- the last that has the key -/
def lastF (key : List UInt8) (acc : List UInt8 × Bool) (c : Ch) : List UInt8 × Bool := if c.key = key then (c.val, true) else acc
def lastL (l : List Ch) (key : List UInt8) : List UInt8 × Bool := l.foldl (lastF key) ([], false)
theorem last_none {key : List UInt8} : ∀ (l : List Ch) (acc : List UInt8 × Bool), (∀ y ∈ l, y.key ≠ key) → l.foldl (lastF key) acc = acc
  | [], _, _ => rfl
  | x :: l, acc, h => by
    rw [List.foldl_cons, show lastF key acc x = acc by unfold lastF; rw [if_neg (h x (by simp))]]
    exact last_none l acc (fun y hy => h y (by simp [hy]))
theorem last_get {A : List Ch} (hr : Rising A) (key : List UInt8) : lastL A key = getL A key := by
  unfold getL
  by_cases h : isAt A key = true
  · rw [if_pos h]
    obtain ⟨x, hx, hk⟩ := isAt_at h
    have hlt := isAt_lt h
    generalize cnt A key = i at *
    have hxi : A[i] = x := by
      rw [List.getElem?_eq_getElem hlt] at hx
      exact Option.some.inj hx
    have hsp : A = A.take i ++ x :: A.drop (i + 1) := by
      rw [← hxi, ← List.drop_eq_getElem_cons hlt, List.take_append_drop]
    have hpost : ∀ y ∈ A.drop (i + 1), y.key ≠ key := fun y hy e => by
      obtain ⟨t, ht, rfl⟩ := List.getElem_of_mem hy
      rw [List.length_drop] at ht
      have h1 := rising_at hr (i := i) (j := i + 1 + t) (by omega) (by omega)
      rw [nth_at hlt, nth_at (by omega), hxi, hk] at h1
      rw [List.getElem_drop] at e
      rw [e, klt_irrefl] at h1
      cases h1
    unfold lastL
    rw [hsp, List.foldl_append, List.foldl_cons, show ∀ acc, lastF key acc x = (x.val, true) from fun acc => by unfold lastF; rw [if_pos hk], last_none _ _ hpost]
    rw [← hsp, nth_at hlt, hxi]
  · rw [if_neg h]
    unfold lastL
    refine last_none _ _ (fun y hy e => h ((isAt_iff hr key).2 ⟨y, hy, e⟩))
theorem last_succ {A : List Ch} {k : Nat} (h : k < A.length) (key : List UInt8) : lastL (A.take (k + 1)) key = lastF key (lastL (A.take k) key) (nth A k) := by
  unfold lastL
  rw [take_succ_ch h, List.foldl_append]; rfl
theorem kept_nth {A : List Ch} (h : Kept A) {k : Nat} (hk : k < A.length) : (nth A k).gone = false := by
  rw [nth_at hk]; exact h _ (List.getElem_mem _)
theorem kept_under {A : List Ch} (h : Kept A) (p : List UInt8) : Kept (underL A p) := fun y hy => h y (List.mem_filter.1 hy).1
set_option maxRecDepth 100000 in
set_option maxHeartbeats 3200000 in
theorem StoreFinds_walk (w : World) (v0 : Value) (l : List Ch) (w0 : VChs w v0 l) (s1 : ByteArray) (_ : s1.size ≤ 140737488351232) (s2 : ByteArray) (_ : s2.size ≤ 140737488351232) :
    Calls Try.prog 16 #[v0, .string s1, .string s2] w fun e w' => e = .returned (.bool true) ∧ Below w.heap.size w w' := by
  obtain ⟨a, cap, rfl, hrd, hwt⟩ := w0
  obtain ⟨key, hkey⟩ : ∃ key : List UInt8, key = s1.data.toList := ⟨_, rfl⟩
  obtain ⟨pre, hpre⟩ : ∃ pre : List UInt8, pre = s2.data.toList := ⟨_, rfl⟩
  obtain rfl : s1 = ⟨key.toArray⟩ := by rw [hkey]
  obtain rfl : s2 = ⟨pre.toArray⟩ := by rw [hpre]
  clear hkey hpre
  have HRD := hid hrd
  have HWT := hid hwt
  clear hrd hwt
  go_enter Try.func16, Try.ntmps16
  go_wp2_with fail
  refine (live_new w w (Mod.refl _ _) 4000 4000 (by omega)).mono ?_
  rintro e w1 ⟨p, S, rfl, hl, _, _⟩
  have HL := hid hl
  clear hl
  go_wp2_with fail
  refine (is_open HL.out (by omega) (by omega)).mono ?_
  rintro e w2 ⟨s, T, rfl, hs, _⟩
  have HS := hid hs
  clear hs HL
  go_wp2_with fail
  refine (awake6_any w2).mono ?_
  rintro e w3 ⟨rfl, hm3⟩
  have HS3 := hid (HS.out.step hm3)
  clear hm3 HS
  go_wp2_with fail
  refine (few_any w3 a l.length cap).mono ?_
  rintro e w4 ⟨rfl, rfl⟩
  by_cases h3 : l.length ≤ 300
  · rw [decide_eq_true h3]
    go_wp2_with fail
    refine (batch_any w3 a l.length cap l rfl (HS3.out.mod.rdv HRD.out (fun _ _ h => h)) (by omega)).mono ?_
    rintro e w4 ⟨ba, bc, rfl, hb4⟩
    have HS4 := hid (HS3.out.step hb4.mod)
    obtain ⟨ra, rc, re, hrd4⟩ := hb4.shape
    obtain ⟨rfl, rfl⟩ : ba = ra ∧ bc = rc := by injection re with e1 e2 e3; exact ⟨e1, e3⟩
    have HC := hid (is_commit HS4.out (by decide) l ba l.length bc rfl hrd4 (by show 0 + l.length ≤ _; omega) HWT.out (Nat.le_trans (wt_all l) HWT.out))
    clear hb4 re hrd4
    have HSAY := hid ((SSt.new (DSt.new 4000)).commit_says l)
    generalize hr : (SSt.new (DSt.new 4000)).commit l = r at *
    clear hr
    go_wp2_with fail
    refine HC.out.mono ?_
    rintro e w5 ⟨T5, rfl, hs5, _⟩
    have HS5 := hid hs5
    clear hs5 HC HS4 HS3
    rcases HSAY.out with ⟨hz, hhas⟩ | ⟨hz, _, _, hnf⟩
    · rw [hz]
      have hhas' : r.1.has = allL [] l := hhas
      clear hz hhas HSAY
      generalize hσ : r.1 = σ at *
      clear hσ
      have HAL := hid (all_any w5 none 0 0 [] rfl (.inl rfl) List.Pairwise.nil a l.length cap l rfl (HS5.out.mod.rdv HRD.out (fun _ _ h => h)) (by simp; omega))
      have HRA := hid (rising_all l (l := []) List.Pairwise.nil)
      have HKA := hid (kept_all l (l := []) List.Pairwise.nil (fun y hy => by cases hy))
      have HFEW := hid (show (allL [] l).length ≤ 1000000 by have := all_len l (l := []) List.Pairwise.nil; simp at this; omega)
      rw [← hhas'] at HAL HRA HKA HFEW
      clear hhas'
      have HG := hid (fun (W : World) (hm : Mod None w5 W) => is_get (HS5.out.step hm) key HFEW.out)
      rw [← last_get HRA.out] at HG
      generalize hA : σ.has = A at *
      have HA := hid hA
      clear hA
      unfold Str at HG
      go_wp2_with fail
      refine HAL.out.mono ?_
      rintro e w6 ⟨aa, ac, rfl, hra, hm6⟩
      have HRR := hid hra
      have HM6 := hid hm6
      clear hra hm6 HAL
      go_wp2_with fail
      refine (HG.out w6 HM6.out).mono ?_
      rintro e w7 ⟨rfl, hm7⟩
      have HRR7 := hid (hm7.rdv HRR.out (fun _ _ h => h))
      have HS7 := hid (HS5.out.step (HM6.out.trans hm7))
      clear hm7 HRR HG
      generalize hnn : A.length = nn at *
      have HNN := hid hnn
      clear hnn
      generalize hlast : lastL A key = last at *
      have HLAST := hid hlast
      clear hlast
      go_wp2_with fail
      go_loopw [12, 13, 14] (fun vw vh vi wr => ∃ i : Nat, i ≤ nn ∧ vi = .int .i64 i ∧ vw = .string ⟨(lastL (A.take i) key).1.toArray⟩ ∧ vh = .bool (lastL (A.take i) key).2 ∧ wr = w7) (fun _ _ vi _ => nn - (intOf vi).toNat)
      case atStart => exact ⟨0, by omega, rfl, rfl, rfl, rfl⟩
      case round =>
        obtain ⟨i, hi, rfl, rfl, rfl, rfl⟩ := hrel
        by_cases hlt : i < nn
        · have hlt' : (i : Int) < (nn : Int) := by omega
          have hiA : i < A.length := by have := HNN.out; omega
          have hnn6 : nn ≤ 1000000 := by have := HFEW.out; omega
          obtain ⟨b, o, rfl, e1, e2, e3⟩ := rd_ch HRR7.out hiA
          have HLS := hid (last_succ hiA key)
          generalize lastL (A.take i) key = acc at *
          generalize nth A i = x at *
          have HF := hid (show lastF key acc x = if x.key = key then (x.val, true) else acc from rfl)
          unfold Str at e1 e2
          by_cases hk : x.key = key
          · rw [if_pos hk] at HF
            rw [hk] at e1
            go_wp2_with fail
            go_roundw
            case rel => exact ⟨i + 1, by omega, by go_num, by rw [HLS.out, HF.out], by rw [HLS.out, HF.out], trivial⟩
            case measure => simp [intOf]; omega
          · rw [if_neg hk] at HF
            have hne1 := str_ne hk
            have hne2 : (x.key == key) = false := beq_eq_false_iff_ne.2 hk
            go_wp2_with fail
            go_roundw
            case rel => exact ⟨i + 1, by omega, by go_num, by rw [HLS.out, HF.out], by rw [HLS.out, HF.out], trivial⟩
            case measure => simp [intOf]; omega
        · obtain rfl : i = nn := by omega
          have hlt' : ¬ (i : Int) < (i : Int) := by omega
          have HE := hid (show lastL (A.take i) key = last by rw [← HNN.out, List.take_length]; exact HLAST.out)
          rw [HE.out]
          have HFA := hid (show A.length ≤ 1000000 by rw [HNN.out]; exact HFEW.out)
          have HU := hid (is_under HS7.out pre (by rw [HA.out]; exact HFA.out))
          rw [HA.out] at HU
          have HKU := hid (kept_under HKA.out pre)
          have HUL := hid (Nat.le_trans (under_few A pre) HFA.out)
          unfold Str at HU
          go_wp2_with fail
          refine HU.out.mono ?_
          rintro e w8 ⟨ua, uc, rfl, hu⟩
          obtain ⟨ra, rc, re, hru⟩ := hu.shape
          obtain ⟨rfl, rfl⟩ : ua = ra ∧ uc = rc := by injection re with e1 e2 e3; exact ⟨e1, e3⟩
          have HRU := hid hru
          have HS8 := hid (HS7.out.step hu.mod)
          have HX := hid (refunder_any w8 aa i ac A HNN.out.symm (hu.mod.rdv HRR7.out (fun _ _ h => h)) HFA.out pre)
          clear re hru hu HU
          unfold Str at HX
          go_wp2_with fail
          refine HX.out.mono ?_
          rintro e w9 ⟨xa, xc, rfl, hx⟩
          obtain ⟨ra, rc, re, hrx⟩ := hx.shape
          obtain ⟨rfl, rfl⟩ : xa = ra ∧ xc = rc := by injection re with e1 e2 e3; exact ⟨e1, e3⟩
          have HRX := hid hrx
          have HRU9 := hid (hx.mod.rdv HRU.out (fun _ _ h => h))
          have HS9 := hid (HS8.out.step hx.mod)
          clear re hrx hx HX HRU HS8
          have HN := hid (is_count HS9.out)
          rw [HA.out, HNN.out] at HN
          generalize underL A pre = U at *
          generalize hun : U.length = un at *
          have HUN := hid hun
          clear hun
          go_wp2_with fail
          refine HN.out.mono ?_
          rintro e w10 ⟨rfl, rfl⟩
          clear HN
          go_wp2_with fail
          go_loopw [17] (fun vi wr => ∃ (j m : Nat), j ≤ un ∧ vi = .int .i64 j ∧ wr = w9.drewN m) (fun vi _ => un - (intOf vi).toNat)
          case atStart => exact ⟨0, 0, by omega, rfl, rfl⟩
          case round =>
            obtain ⟨j, m, hj, rfl, rfl⟩ := hrel
            by_cases hjl : j < un
            · have hjl' : (j : Int) < (un : Int) := by omega
              have hjU : j < U.length := by have := HUN.out; omega
              obtain ⟨b, o, rfl, e1, e2, e3⟩ := rd_ch HRU9.out hjU
              obtain ⟨b', o', rfl, d1, d2, d3⟩ := rd_ch HRX.out hjU
              have hgone := kept_nth HKU.out hjU
              have hun6 : un ≤ 1000000 := HUL.out
              rw [hgone] at e3
              generalize nth U j = x at *
              unfold Str at e1 e2 d1 d2
              go_wp2_with fail
              go_quiet (fail)
              go_wp2_with fail
              go_roundw
              case rel => exact ⟨j + 1, _, by omega, by go_num, rfl⟩
              case measure => simp [intOf]; omega
            · obtain rfl : j = un := by omega
              have hjl' : ¬ (j : Int) < (j : Int) := by omega
              go_wp2_with fail
              go_ret
              exact ⟨rfl, (HS9.out.mod.trans (mod_drewN w9 m)).below _ (Nat.le_refl _) (fun _ h => h.elim)⟩
    · rw [hz]
      have hlen : ¬ (encL l).length ≤ 100000 := fun h => hnf ⟨by omega, by
        have : halfN (SSt.new (DSt.new 4000)).st = 1999 := by show halfN (DSt.new 4000) = 1999; unfold halfN; rw [new_len]
        rw [this]; show 0 + (encL l).length + 16 ≤ _; omega⟩
      have HBY := hid (refbytes_any w5 a l.length cap l rfl (HS5.out.mod.rdv HRD.out (fun _ _ h => h)) HWT.out)
      have hlen' : (100000 : Int) < ((encL l).length : Int) := by omega
      clear hnf hz HSAY
      generalize (encL l).length = en at *
      go_wp2_with fail
      refine HBY.out.mono ?_
      intro e w6 hp6
      obtain ⟨a6, c6, m6, rfl, hl6, hr6, hm6⟩ := lenR_rd hp6
      have HM6 := hid (HS5.out.mod.trans hm6)
      clear hp6 hl6 hr6 hm6
      go_wp2_with fail
      go_ret
      exact ⟨rfl, HM6.out.below _ (Nat.le_refl _) (fun _ h => h.elim)⟩
  · rw [decide_eq_false h3]
    go_wp2_with fail
    go_ret
    exact ⟨rfl, HS3.out.mod.below _ (Nat.le_refl _) (fun _ h => h.elim)⟩
end Go.Proofs.Ytdhhpnfdnoaihaa

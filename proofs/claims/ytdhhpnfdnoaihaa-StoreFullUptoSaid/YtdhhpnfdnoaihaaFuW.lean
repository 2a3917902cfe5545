import Derived.ShutString
import Derived.Test.YtdhhpnfdnoaihaaRows
import Derived.Test.YtdhhpnfdnoaihaaY8
/-! T1 -/
/- Rows of changes, of the program's and of the document's; few, batch. -/
namespace Go.Proofs.Ytdhhpnfdnoaihaa
open Go.RowKit

theorem s_und73 : Try.prog.underlying 73 = some (.slice 86) := by kernel_rfl
theorem s_info86 : (Try.prog.info? 86).map (fun i => (i.zero, i.size, i.bytes)) = some (some chZ, 3, 40) := by kernel_rfl
/-- v is the row L of type t, made since w -/
structure CRow (t : TypeId) (w wr : World) (v : Value) (L : List Ch) : Prop where
  own : wr.ownsRow 0 t 3 v L.length (rowC L)
  mod : Mod None w wr
  new : ∀ g, v.ownBlock = some g → w.heap.size ≤ g
section
variable {t : TypeId} {w wr w' : World} {v : Value} {L : List Ch}
theorem CRow.nil (t : TypeId) (w : World) : CRow t w w (.slice none 0 0) [] := ⟨World.ownsRow_nil _ _ _ _, Mod.refl _ _, fun g hg => by cases hg⟩
theorem CRow.keep (h : CRow t w wr v L) (hm : Mod None wr w') : CRow t w w' v L :=
  ⟨((show OwnR wr (fun _ => True) t 3 v L.length (rowC L) from ⟨h.own, fun _ _ => trivial⟩).kept hm (fun _ _ e => e) (fun _ h => h)).1, h.mod.trans hm, h.new⟩
theorem CRow.shape (h : CRow t w wr v L) : ∃ a c, v = .slice a L.length c ∧ RdV wr a (rowC L) := by
  have h1 : OwnR wr (fun _ => True) t 3 v L.length (rowC L) := ⟨h.own, fun _ _ => trivial⟩
  obtain ⟨a, c, e, _⟩ := h1.shape
  exact ⟨a, c, e, h1.rdv e⟩
/-- one more -/
theorem CRow.snoc {W w3 : World} {x : Ch} {va : Option Addr} {vc : Nat} (h : CRow t w wr v L) (hm : Mod None wr W) (g2 : w3.ownsRow 0 t 3 (.slice va (L.length + 1) vc) (L.length + 1) (rowC L ++ chC x)) (g3 : Mod (fun k => v.ownBlock = some k) W w3)
    (g4 : ∀ g, (Value.slice va (L.length + 1) vc).ownBlock = some g → v.ownBlock = some g ∨ (W.heap.size ≤ g ∧ g < w3.heap.size)) : CRow t w w3 (.slice va (L ++ [x]).length vc) (L ++ [x]) := by
  have e : (L ++ [x]).length = L.length + 1 := by simp
  have e2 : rowC (L ++ [x]) = rowC L ++ chC x := by rw [rowC_append]; simp [rowC]
  refine ⟨by rw [e, e2]; exact g2, (h.mod.trans hm).then g3 (fun k hk hv => by have := h.new k hv; omega), fun g hg => ?_⟩
  rw [e] at hg
  rcases g4 g hg with h' | h'
  · exact h.new g h'
  · exact Nat.le_trans (h.mod.trans hm).size h'.1
end
theorem one_src (W : World) (t : TypeId) (x : Ch) : RdV (W.alloc (.cells #[Str x.key, Str x.val, .bool x.gone] t)) (some ⟨W.heap.size, 0, none⟩) (chC x) :=
  (Blk.new W t _).rdv 0 (fun i _ => by rw [Nat.zero_add]; rfl)
def CPostR (t : TypeId) (w : World) (L : List Ch) (e : Ending) (w' : World) : Prop := ∃ a c, e = .returned (.slice a L.length c) ∧ CRow t w w' (.slice a L.length c) L
theorem few_any (w : World) (a : Option Addr) (n c : Nat) : Calls Try.prog 52 #[.slice a n c] w fun e w' => e = .returned (.bool (decide (n ≤ 300))) ∧ w = w' := by
  by_cases h : n ≤ 300
  · have h' : (n : Int) ≤ 300 := by omega
    rw [decide_eq_true h]
    go_enter Try.func52, Try.ntmps52
    go_wp2
    go_ret
    exact ⟨rfl, rfl⟩
  · have h' : ¬ (n : Int) ≤ 300 := by omega
    rw [decide_eq_false h]
    go_enter Try.func52, Try.ntmps52
    go_wp2
    go_ret
    exact ⟨rfl, rfl⟩
theorem take_succ_ch {l : List Ch} {k : Nat} (h : k < l.length) : l.take (k + 1) = l.take k ++ [nth l k] := by
  rw [List.take_add_one, List.getElem?_eq_getElem h, nth_at h]; rfl
theorem take_len_ch {l : List Ch} {k : Nat} (h : k ≤ l.length) : (l.take k).length = k := by rw [List.length_take]; omega
theorem held3 {w w' : World} {p0 p1 p2 : Addr} {x : Ch} (e1 : w.cell? p0 = some (Str x.key)) (e2 : w.cell? p1 = some (Str x.val)) (e3 : w.cell? p2 = some (.bool x.gone)) (hm : Mod None w w') : w'.cell? p0 = some (.string { data := x.key.toArray }) ∧ w'.cell? p1 = some (.string { data := x.val.toArray }) ∧ w'.cell? p2 = some (.bool x.gone) :=
  ⟨hm.cell0 e1, hm.cell0 e2, hm.cell0 e3⟩
section
variable {t : TypeId} {w wr : World} {v : Value} {L : List Ch} {k : Nat}
theorem CRow.own_at {w2 : World} (h : CRow t w wr v L) (hk : L.length = k) (hm : Mod None wr w2) (o : Obj) : (w2.alloc o).ownsRow 0 t 3 v k (rowC L) := by
  subst hk; exact (h.keep (hm.alloc o)).own
theorem CRow.snoc_at {w2 w3 : World} {x : Ch} {va : Option Addr} {vc : Nat} {o : Obj} (h : CRow t w wr v L) (hk : L.length = k) (hm : Mod None wr w2) (g2 : w3.ownsRow 0 t 3 (.slice va (k + 1) vc) (k + 1) (rowC L ++ chC x)) (g3 : Mod (fun k => v.ownBlock = some k) (w2.alloc o) w3)
    (g4 : ∀ g, (Value.slice va (k + 1) vc).ownBlock = some g → v.ownBlock = some g ∨ ((w2.alloc o).heap.size ≤ g ∧ g < w3.heap.size)) : CRow t w w3 (.slice va (k + 1) vc) (L ++ [x]) := by
  subst hk
  have := h.snoc (hm.alloc o) g2 g3 g4
  rw [show (L ++ [x]).length = L.length + 1 by simp] at this
  exact this
end
set_option maxRecDepth 100000 in
set_option maxHeartbeats 1600000 in
theorem batch_any (w : World) (a : Option Addr) (n c : Nat) (l : List Ch) (hn : n = l.length) (hr : RdV w a (rowC l)) (hfew : l.length ≤ 1000000) : Calls Try.prog 54 #[.slice a n c] w (CPostR 89 w l) := by
  have HR := hid hr
  have HN := hid hn
  have hn6 : n ≤ 1000000 := by omega
  clear hr hn hfew
  obtain ⟨it, hit, hz, hsz, hby⟩ := info_parts s_info89
  have HIX := hid (And.intro hit (And.intro hz (And.intro hsz hby)))
  clear hit hz hsz hby
  go_enter Try.func54, Try.ntmps54
  go_wp2_with fail
  go_loopw [3, 4] (fun v i wr => ∃ (k : Nat) (va : Option Addr) (vc : Nat), k ≤ n ∧ i = .int .i64 k ∧ v = .slice va k vc ∧ Hid (CRow 89 w wr (.slice va k vc) (l.take k))) (fun _ i _ => n - (intOf i).toNat)
  case atStart => exact ⟨0, none, 0, by omega, rfl, rfl, by rw [List.take_zero]; exact CRow.nil 89 w⟩
  case round =>
    obtain ⟨k, va, vc, hk, rfl, rfl, h1⟩ := hrel
    by_cases hlt : k < n
    · have hlt' : (k : Int) < (n : Int) := by omega
      have hkl : k < l.length := by have := HN.out; omega
      obtain ⟨b, o, rfl, e1, e2, e3⟩ := rd_ch HR.out hkl
      have HTS := hid (take_succ_ch hkl)
      have HTL := hid (take_len_ch (l := l) (k := k) (by omega))
      have HMC := hid h1.out.mod.drew
      generalize nth l k = x at *
      have HX := hid (fun w' hm => held3 (w' := w') e1 e2 e3 hm)
      clear e1 e2 e3
      generalize l.take k = L at *
      go_wp2_with fail
      refine wp_region_held_drew (S := fun w' => w'.cell? ⟨b, o + k * 3, none⟩ = some (.string { data := x.key.toArray }) ∧ w'.cell? ⟨b, o + k * 3 + 1, none⟩ = some (.string { data := x.val.toArray }) ∧ w'.cell? ⟨b, o + k * 3 + 2, none⟩ = some (.bool x.gone)) (by kernel_rfl) ?_ (fun hHeld => ?_)
      · exact HX.out _ HMC.out
      refine wpAnyH_take (i := 0) (oi := { dst := some 11, op := Op.move (Operand.tmp 3), type := 79, pos := "law.go:37", after := #[], guard := none }) (v := ?vo1_0) rfl (by kernel_rfl) (by kernel_rfl) (by kernel_rfl) (fun _ _ _ h => h) (Or.inl ⟨by rfl, ?yo1_0⟩) (by assumption) ?ro1_0
      case yo1_0 => (intro w hSw; (try dsimp only at hSw); go_simp; (try with_reducible rfl))
      try simp only [Act.put, List.setIfInBounds_toArray, List.set_cons_zero, List.set_cons_succ]
      refine wpAnyH_take (i := 1) (oi := { dst := some 12, op := Op.move (Operand.tmp 0), type := 73, pos := "law.go:37", after := #[], guard := none }) (v := ?vo2_1) rfl (by kernel_rfl) (by kernel_rfl) (by kernel_rfl) (fun _ _ _ h => h) (Or.inl ⟨by rfl, ?yo2_1⟩) (by assumption) ?ro2_1
      case yo2_1 => (intro w hSw; (try dsimp only at hSw); go_simp; (try with_reducible rfl))
      try simp only [Act.put, List.setIfInBounds_toArray, List.set_cons_zero, List.set_cons_succ]
      refine wpAnyH_take (i := 2) (oi := { dst := some 13, op := Op.move (Operand.tmp 4), type := 3, pos := "law.go:37", after := #[], guard := none }) (v := ?vo3_2) rfl (by kernel_rfl) (by kernel_rfl) (by kernel_rfl) (fun _ _ _ h => h) (Or.inl ⟨by rfl, ?yo3_2⟩) (by assumption) ?ro3_2
      case yo3_2 => (intro w hSw; (try dsimp only at hSw); go_simp; (try with_reducible rfl))
      try simp only [Act.put, List.setIfInBounds_toArray, List.set_cons_zero, List.set_cons_succ]
      refine wpAnyH_take (i := 3) (oi := { dst := some 14, op := Op.indexAddr 73 (Operand.tmp 12) (Operand.tmp 13), type := 0, pos := "law.go:37", after := #[{ on := 1, ground := Ground.data }, { on := 2, ground := Ground.data }], guard := none }) (v := ?vo4_3) rfl (by kernel_rfl) (by kernel_rfl) (by kernel_rfl) (fun _ _ _ h => h) (Or.inl ⟨by rfl, ?yo4_3⟩) (by assumption) ?ro4_3
      case yo4_3 => (intro w hSw; (try dsimp only at hSw); go_simp; (try with_reducible rfl))
      try simp only [Act.put, List.setIfInBounds_toArray, List.set_cons_zero, List.set_cons_succ]
      refine wpAnyH_take (i := 4) (oi := { dst := some 15, op := Op.fieldAddr 86 (Operand.tmp 14) 0, type := 0, pos := "law.go:37", after := #[{ on := 3, ground := Ground.data }], guard := none }) (v := ?vo5_4) rfl (by kernel_rfl) (by kernel_rfl) (by kernel_rfl) (fun _ _ _ h => h) (Or.inl ⟨by rfl, ?yo5_4⟩) (by assumption) ?ro5_4
      case yo5_4 => (intro w hSw; (try dsimp only at hSw); go_simp; (try with_reducible rfl))
      try simp only [Act.put, List.setIfInBounds_toArray, List.set_cons_zero, List.set_cons_succ]
      refine wpAnyH_take (i := 5) (oi := { dst := some 16, op := Op.load 9 (Operand.tmp 15), type := 9, pos := "law.go:37", after := #[{ on := 4, ground := Ground.data }], guard := none }) (v := ?vo6_5) rfl (by kernel_rfl) (by kernel_rfl) (by kernel_rfl) (fun _ _ _ h => h) (Or.inl ⟨by rfl, ?yo6_5⟩) (by assumption) ?ro6_5
      case yo6_5 => (intro w hSw; (try dsimp only at hSw); go_simp; (try with_reducible rfl))
      try simp only [Act.put, List.setIfInBounds_toArray, List.set_cons_zero, List.set_cons_succ]
      refine wpAnyH_take (i := 6) (oi := { dst := some 17, op := Op.move (Operand.tmp 0), type := 73, pos := "law.go:37", after := #[], guard := none }) (v := ?vo7_6) rfl (by kernel_rfl) (by kernel_rfl) (by kernel_rfl) (fun _ _ _ h => h) (Or.inl ⟨by rfl, ?yo7_6⟩) (by assumption) ?ro7_6
      case yo7_6 => (intro w hSw; (try dsimp only at hSw); go_simp; (try with_reducible rfl))
      try simp only [Act.put, List.setIfInBounds_toArray, List.set_cons_zero, List.set_cons_succ]
      refine wpAnyH_take (i := 7) (oi := { dst := some 18, op := Op.move (Operand.tmp 4), type := 3, pos := "law.go:37", after := #[], guard := none }) (v := ?vo8_7) rfl (by kernel_rfl) (by kernel_rfl) (by kernel_rfl) (fun _ _ _ h => h) (Or.inl ⟨by rfl, ?yo8_7⟩) (by assumption) ?ro8_7
      case yo8_7 => (intro w hSw; (try dsimp only at hSw); go_simp; (try with_reducible rfl))
      try simp only [Act.put, List.setIfInBounds_toArray, List.set_cons_zero, List.set_cons_succ]
      refine wpAnyH_take (i := 8) (oi := { dst := some 19, op := Op.indexAddr 73 (Operand.tmp 17) (Operand.tmp 18), type := 0, pos := "law.go:37", after := #[{ on := 6, ground := Ground.data }, { on := 7, ground := Ground.data }], guard := none }) (v := ?vo9_8) rfl (by kernel_rfl) (by kernel_rfl) (by kernel_rfl) (fun _ _ _ h => h) (Or.inl ⟨by rfl, ?yo9_8⟩) (by assumption) ?ro9_8
      case yo9_8 => (intro w hSw; (try dsimp only at hSw); go_simp; (try with_reducible rfl))
      try simp only [Act.put, List.setIfInBounds_toArray, List.set_cons_zero, List.set_cons_succ]
      refine wpAnyH_take (i := 9) (oi := { dst := some 20, op := Op.fieldAddr 86 (Operand.tmp 19) 1, type := 0, pos := "law.go:37", after := #[{ on := 8, ground := Ground.data }], guard := none }) (v := ?vo10_9) rfl (by kernel_rfl) (by kernel_rfl) (by kernel_rfl) (fun _ _ _ h => h) (Or.inl ⟨by rfl, ?yo10_9⟩) (by assumption) ?ro10_9
      case yo10_9 => (intro w hSw; (try dsimp only at hSw); go_simp; (try with_reducible rfl))
      try simp only [Act.put, List.setIfInBounds_toArray, List.set_cons_zero, List.set_cons_succ]
      refine wpAnyH_take (i := 10) (oi := { dst := some 21, op := Op.load 9 (Operand.tmp 20), type := 9, pos := "law.go:37", after := #[{ on := 9, ground := Ground.data }], guard := none }) (v := ?vo11_10) rfl (by kernel_rfl) (by kernel_rfl) (by kernel_rfl) (fun _ _ _ h => h) (Or.inl ⟨by rfl, ?yo11_10⟩) (by assumption) ?ro11_10
      case yo11_10 => (intro w hSw; (try dsimp only at hSw); go_simp; (try with_reducible rfl))
      try simp only [Act.put, List.setIfInBounds_toArray, List.set_cons_zero, List.set_cons_succ]
      refine wpAnyH_take (i := 11) (oi := { dst := some 22, op := Op.move (Operand.tmp 0), type := 73, pos := "law.go:37", after := #[], guard := none }) (v := ?vo12_11) rfl (by kernel_rfl) (by kernel_rfl) (by kernel_rfl) (fun _ _ _ h => h) (Or.inl ⟨by rfl, ?yo12_11⟩) (by assumption) ?ro12_11
      case yo12_11 => (intro w hSw; (try dsimp only at hSw); go_simp; (try with_reducible rfl))
      try simp only [Act.put, List.setIfInBounds_toArray, List.set_cons_zero, List.set_cons_succ]
      refine wpAnyH_take (i := 12) (oi := { dst := some 23, op := Op.move (Operand.tmp 4), type := 3, pos := "law.go:37", after := #[], guard := none }) (v := ?vo13_12) rfl (by kernel_rfl) (by kernel_rfl) (by kernel_rfl) (fun _ _ _ h => h) (Or.inl ⟨by rfl, ?yo13_12⟩) (by assumption) ?ro13_12
      case yo13_12 => (intro w hSw; (try dsimp only at hSw); go_simp; (try with_reducible rfl))
      try simp only [Act.put, List.setIfInBounds_toArray, List.set_cons_zero, List.set_cons_succ]
      refine wpAnyH_take (i := 13) (oi := { dst := some 24, op := Op.indexAddr 73 (Operand.tmp 22) (Operand.tmp 23), type := 0, pos := "law.go:37", after := #[{ on := 11, ground := Ground.data }, { on := 12, ground := Ground.data }], guard := none }) (v := ?vo14_13) rfl (by kernel_rfl) (by kernel_rfl) (by kernel_rfl) (fun _ _ _ h => h) (Or.inl ⟨by rfl, ?yo14_13⟩) (by assumption) ?ro14_13
      case yo14_13 => (intro w hSw; (try dsimp only at hSw); go_simp; (try with_reducible rfl))
      try simp only [Act.put, List.setIfInBounds_toArray, List.set_cons_zero, List.set_cons_succ]
      refine wpAnyH_take (i := 14) (oi := { dst := some 25, op := Op.fieldAddr 86 (Operand.tmp 24) 2, type := 0, pos := "law.go:37", after := #[{ on := 13, ground := Ground.data }], guard := none }) (v := ?vo15_14) rfl (by kernel_rfl) (by kernel_rfl) (by kernel_rfl) (fun _ _ _ h => h) (Or.inl ⟨by rfl, ?yo15_14⟩) (by assumption) ?ro15_14
      case yo15_14 => (intro w hSw; (try dsimp only at hSw); go_simp; (try with_reducible rfl))
      try simp only [Act.put, List.setIfInBounds_toArray, List.set_cons_zero, List.set_cons_succ]
      refine wpAnyH_take (i := 15) (oi := { dst := some 26, op := Op.load 4 (Operand.tmp 25), type := 4, pos := "law.go:37", after := #[{ on := 14, ground := Ground.data }], guard := none }) (v := ?vo16_15) rfl (by kernel_rfl) (by kernel_rfl) (by kernel_rfl) (fun _ _ _ h => h) (Or.inl ⟨by rfl, ?yo16_15⟩) (by assumption) ?ro16_15
      case yo16_15 => (intro w hSw; (try dsimp only at hSw); go_simp; (try with_reducible rfl))
      try simp only [Act.put, List.setIfInBounds_toArray, List.set_cons_zero, List.set_cons_succ]
      refine wpAnyH_take (i := 16) (oi := { dst := some 27, op := Op.build 89 #[(0, Operand.tmp 16), (1, Operand.tmp 21), (2, Operand.tmp 26)], type := 89, pos := "law.go:37", after := #[{ on := 5, ground := Ground.data }, { on := 10, ground := Ground.data }, { on := 15, ground := Ground.data }], guard := none }) (v := ?vo17_16) rfl (by kernel_rfl) (by kernel_rfl) (by kernel_rfl) (fun _ _ _ h => h) (Or.inl ⟨by rfl, ?yo17_16⟩) (by assumption) ?ro17_16
      case yo17_16 => (intro w hSw; (try dsimp only at hSw); go_simp; (try with_reducible rfl))
      try simp only [Act.put, List.setIfInBounds_toArray, List.set_cons_zero, List.set_cons_succ]
      refine wpAnyH_ready (rs := [17]) (by kernel_rfl) (by simp) ?_
      refine AllReadyH.cons (o := { dst := some 28, op := Op.buildSlice 79 1 #[(0, Operand.tmp 27)], type := 79, pos := "law.go:37", after := #[{ on := 16, ground := Ground.data }], guard := none }) rfl (fun K hK => ?_) AllReadyH.nil
      go_simp; have HMC := hid (h1.out.mod.alloc (.cells #[Str x.key, Str x.val, .bool x.gone] 89)).drew
      refine hK.out _ _ ?_ (fun hHeld => ?_)
      · exact HX.out _ HMC.out
      clear hK K
      try simp only [Act.put, List.setIfInBounds_toArray, List.set_cons_zero, List.set_cons_succ]
      refine wpAnyH_ready (rs := [18]) (by kernel_rfl) (by simp) ?_
      refine AllReadyH.cons (o := { dst := some 29, op := Op.call { callee := Callee.builtin Builtin.append, args := #[Operand.tmp 11, Operand.tmp 28], argTypes := #[79, 79] }, type := 79, pos := "law.go:37", after := #[{ on := 0, ground := Ground.data }, { on := 17, ground := Ground.data }], guard := none }) rfl (fun K hK => ?_) AllReadyH.nil
      refine wp_append_R (.tmp 11) (.tmp 28) 79 rfl 89 it chZ 3 40 s_und79 HIX.out.1 HIX.out.2.1 HIX.out.2.2.1 HIX.out.2.2.2 rfl (by decide) (.slice va k vc) k (rowC L) rfl (h1.out.own_at HTL.out (Mod.refl None wr) _) _ 1 1 (chC x) rfl rfl (one_src wr 89 x) (ch_ones x) (by unfold maxLen; omega) (by omega) ?_; intro va2 vc2 w3 g2 g3 g4; have HC := hid (h1.out.snoc_at (w2 := wr.drew) (o := .cells #[Str x.key, Str x.val, .bool x.gone] 89) HTL.out (Mod.refl None wr).drew g2.out g3.out g4.out); have HMC := hid HC.out.mod; clear g2 g3 g4
      refine hK.out _ _ ?_ (fun hHeld => ?_)
      · exact HX.out _ HMC.out
      clear hK K
      try simp only [Act.put, List.setIfInBounds_toArray, List.set_cons_zero, List.set_cons_succ]
      refine wpAnyH_take (i := 19) (oi := { dst := some 3, op := Op.assign (Operand.tmp 29), type := 79, pos := "law.go:37", after := #[{ on := 18, ground := Ground.data }, { on := 18, ground := Ground.chain }, { on := 0, ground := Ground.phase }, { on := 1, ground := Ground.phase }, { on := 2, ground := Ground.phase }, { on := 3, ground := Ground.phase }, { on := 4, ground := Ground.phase }, { on := 5, ground := Ground.phase }, { on := 6, ground := Ground.phase }, { on := 7, ground := Ground.phase }, { on := 8, ground := Ground.phase }, { on := 9, ground := Ground.phase }, { on := 10, ground := Ground.phase }, { on := 11, ground := Ground.phase }, { on := 12, ground := Ground.phase }, { on := 13, ground := Ground.phase }, { on := 14, ground := Ground.phase }, { on := 15, ground := Ground.phase }, { on := 16, ground := Ground.phase }, { on := 17, ground := Ground.phase }, { on := 18, ground := Ground.phase }], guard := none }) (v := ?vo18_19) rfl (by kernel_rfl) (by kernel_rfl) (by kernel_rfl) (fun _ _ _ h => h) (Or.inl ⟨by rfl, ?yo18_19⟩) (by assumption) ?ro18_19
      case yo18_19 => (intro w hSw; (try dsimp only at hSw); go_simp; (try with_reducible rfl))
      try simp only [Act.put, List.setIfInBounds_toArray, List.set_cons_zero, List.set_cons_succ]
      refine wpAnyH_done (by kernel_rfl) ?_ _
      go_wp2_with fail
      go_roundw
      case rel => exact ⟨k + 1, va2, vc2, by omega, by go_num, rfl, by rw [HTS.out]; exact HC.out⟩
      case measure => simp [intOf]; omega
    · obtain rfl : k = n := by omega
      have hlt' : ¬ (k : Int) < (k : Int) := by omega
      have HE := hid (show l.take k = l by rw [HN.out, List.take_length])
      rw [HE.out] at h1
      go_wp2_with fail
      go_ret
      exact ⟨va, vc, by rw [← HN.out]; rfl, by rw [← HN.out]; exact h1.out⟩
end Go.Proofs.Ytdhhpnfdnoaihaa

/-! T2 -/
/- What a store has, as the document's: pairs. -/
namespace Go.Proofs.Ytdhhpnfdnoaihaa
open Go.RowKit

theorem under_all (l : List Ch) : underL l [] = l := by
  unfold underL
  rw [List.filter_eq_self]
  intro x _; cases x.key <;> rfl
theorem CRow.since {t : TypeId} {w w1 wr : World} {v : Value} {L : List Ch} (h : CRow t w1 wr v L) (hm : Mod None w w1) : CRow t w wr v L := ⟨h.own, hm.trans h.mod, fun g hg => Nat.le_trans hm.size (h.new g hg)⟩
set_option maxRecDepth 100000 in
set_option maxHeartbeats 1600000 in
theorem pairs_any {w0 w : World} {T : Nat → Prop} {s p : Nat} {σ : SSt} (h : IsStore w0 w T s p σ) (hfew : σ.has.length ≤ 1000000) : Calls Try.prog 61 #[.pointer (some ⟨s, 0, none⟩)] w (CPostR 86 w σ.has) := by
  have HU := hid (is_under h [] hfew)
  rw [under_all] at HU
  generalize hl : σ.has = l at *
  clear h hl
  obtain ⟨it, hit, hz, hsz, hby⟩ := info_parts s_info86
  have HIX := hid (And.intro hit (And.intro hz (And.intro hsz hby)))
  clear hit hz hsz hby
  unfold Str at HU
  go_enter Try.func61, Try.ntmps61
  go_wp2_with fail
  refine HU.out.mono ?_
  rintro e w1 ⟨a, c, rfl, h1⟩
  have HM1 := hid h1.mod
  obtain ⟨ra, rc, re, hrd⟩ := h1.shape
  obtain ⟨rfl, rfl⟩ : a = ra ∧ c = rc := by injection re with e1 e2 e3; exact ⟨e1, e3⟩
  have HR := hid hrd
  clear re hrd h1 HU
  generalize hn : l.length = n at *
  have HN := hid hn.symm
  clear hn
  go_wp2_with fail
  go_loopw [3, 5] (fun v i wr => ∃ (k : Nat) (va : Option Addr) (vc : Nat), k ≤ n ∧ i = .int .i64 k ∧ v = .slice va k vc ∧ Hid (CRow 86 w1 wr (.slice va k vc) (l.take k))) (fun _ i _ => n - (intOf i).toNat)
  case atStart => exact ⟨0, none, 0, by omega, rfl, rfl, by rw [List.take_zero]; exact CRow.nil 86 w1⟩
  case round =>
    obtain ⟨k, va, vc, hk, rfl, rfl, h1⟩ := hrel
    by_cases hlt : k < n
    · have hlt' : (k : Int) < (n : Int) := by omega
      have hkl : k < l.length := by have := HN.out; omega
      obtain ⟨b, o, rfl, e1, e2, e3⟩ := rd_ch HR.out hkl
      have HTS := hid (take_succ_ch hkl)
      have HTL := hid (take_len_ch (l := l) (k := k) (by omega))
      have HMC := hid h1.out.mod.drew
      generalize nth l k = x at *
      have HX := hid (fun w' hm => held3 (w' := w') e1 e2 e3 hm)
      clear e1 e2 e3
      generalize l.take k = L at *
      go_wp2_with fail
      refine wp_region_held_drew (S := fun w' => w'.cell? ⟨b, o + k * 3, none⟩ = some (.string { data := x.key.toArray }) ∧ w'.cell? ⟨b, o + k * 3 + 1, none⟩ = some (.string { data := x.val.toArray }) ∧ w'.cell? ⟨b, o + k * 3 + 2, none⟩ = some (.bool x.gone)) (by kernel_rfl) ?_ (fun hHeld => ?_)
      · exact HX.out _ HMC.out
      refine wpAnyH_take (i := 0) (oi := { dst := some 14, op := Op.move (Operand.tmp 3), type := 73, pos := "law.go:47", after := #[], guard := none }) (v := ?vo1_0) rfl (by kernel_rfl) (by kernel_rfl) (by kernel_rfl) (fun _ _ _ h => h) (Or.inl ⟨by rfl, ?yo1_0⟩) (by assumption) ?ro1_0
      case yo1_0 => (intro w hSw; (try dsimp only at hSw); go_simp; (try with_reducible rfl))
      try simp only [Act.put, List.setIfInBounds_toArray, List.set_cons_zero, List.set_cons_succ]
      refine wpAnyH_take (i := 1) (oi := { dst := some 15, op := Op.move (Operand.tmp 4), type := 79, pos := "law.go:47", after := #[], guard := none }) (v := ?vo2_1) rfl (by kernel_rfl) (by kernel_rfl) (by kernel_rfl) (fun _ _ _ h => h) (Or.inl ⟨by rfl, ?yo2_1⟩) (by assumption) ?ro2_1
      case yo2_1 => (intro w hSw; (try dsimp only at hSw); go_simp; (try with_reducible rfl))
      try simp only [Act.put, List.setIfInBounds_toArray, List.set_cons_zero, List.set_cons_succ]
      refine wpAnyH_take (i := 2) (oi := { dst := some 16, op := Op.move (Operand.tmp 5), type := 3, pos := "law.go:47", after := #[], guard := none }) (v := ?vo3_2) rfl (by kernel_rfl) (by kernel_rfl) (by kernel_rfl) (fun _ _ _ h => h) (Or.inl ⟨by rfl, ?yo3_2⟩) (by assumption) ?ro3_2
      case yo3_2 => (intro w hSw; (try dsimp only at hSw); go_simp; (try with_reducible rfl))
      try simp only [Act.put, List.setIfInBounds_toArray, List.set_cons_zero, List.set_cons_succ]
      refine wpAnyH_take (i := 3) (oi := { dst := some 17, op := Op.indexAddr 79 (Operand.tmp 15) (Operand.tmp 16), type := 0, pos := "law.go:47", after := #[{ on := 1, ground := Ground.data }, { on := 2, ground := Ground.data }], guard := none }) (v := ?vo4_3) rfl (by kernel_rfl) (by kernel_rfl) (by kernel_rfl) (fun _ _ _ h => h) (Or.inl ⟨by rfl, ?yo4_3⟩) (by assumption) ?ro4_3
      case yo4_3 => (intro w hSw; (try dsimp only at hSw); go_simp; (try with_reducible rfl))
      try simp only [Act.put, List.setIfInBounds_toArray, List.set_cons_zero, List.set_cons_succ]
      refine wpAnyH_take (i := 4) (oi := { dst := some 18, op := Op.fieldAddr 89 (Operand.tmp 17) 0, type := 0, pos := "law.go:47", after := #[{ on := 3, ground := Ground.data }], guard := none }) (v := ?vo5_4) rfl (by kernel_rfl) (by kernel_rfl) (by kernel_rfl) (fun _ _ _ h => h) (Or.inl ⟨by rfl, ?yo5_4⟩) (by assumption) ?ro5_4
      case yo5_4 => (intro w hSw; (try dsimp only at hSw); go_simp; (try with_reducible rfl))
      try simp only [Act.put, List.setIfInBounds_toArray, List.set_cons_zero, List.set_cons_succ]
      refine wpAnyH_take (i := 5) (oi := { dst := some 19, op := Op.load 9 (Operand.tmp 18), type := 9, pos := "law.go:47", after := #[{ on := 4, ground := Ground.data }], guard := none }) (v := ?vo6_5) rfl (by kernel_rfl) (by kernel_rfl) (by kernel_rfl) (fun _ _ _ h => h) (Or.inl ⟨by rfl, ?yo6_5⟩) (by assumption) ?ro6_5
      case yo6_5 => (intro w hSw; (try dsimp only at hSw); go_simp; (try with_reducible rfl))
      try simp only [Act.put, List.setIfInBounds_toArray, List.set_cons_zero, List.set_cons_succ]
      refine wpAnyH_take (i := 6) (oi := { dst := some 20, op := Op.move (Operand.tmp 4), type := 79, pos := "law.go:47", after := #[], guard := none }) (v := ?vo7_6) rfl (by kernel_rfl) (by kernel_rfl) (by kernel_rfl) (fun _ _ _ h => h) (Or.inl ⟨by rfl, ?yo7_6⟩) (by assumption) ?ro7_6
      case yo7_6 => (intro w hSw; (try dsimp only at hSw); go_simp; (try with_reducible rfl))
      try simp only [Act.put, List.setIfInBounds_toArray, List.set_cons_zero, List.set_cons_succ]
      refine wpAnyH_take (i := 7) (oi := { dst := some 21, op := Op.move (Operand.tmp 5), type := 3, pos := "law.go:47", after := #[], guard := none }) (v := ?vo8_7) rfl (by kernel_rfl) (by kernel_rfl) (by kernel_rfl) (fun _ _ _ h => h) (Or.inl ⟨by rfl, ?yo8_7⟩) (by assumption) ?ro8_7
      case yo8_7 => (intro w hSw; (try dsimp only at hSw); go_simp; (try with_reducible rfl))
      try simp only [Act.put, List.setIfInBounds_toArray, List.set_cons_zero, List.set_cons_succ]
      refine wpAnyH_take (i := 8) (oi := { dst := some 22, op := Op.indexAddr 79 (Operand.tmp 20) (Operand.tmp 21), type := 0, pos := "law.go:47", after := #[{ on := 6, ground := Ground.data }, { on := 7, ground := Ground.data }], guard := none }) (v := ?vo9_8) rfl (by kernel_rfl) (by kernel_rfl) (by kernel_rfl) (fun _ _ _ h => h) (Or.inl ⟨by rfl, ?yo9_8⟩) (by assumption) ?ro9_8
      case yo9_8 => (intro w hSw; (try dsimp only at hSw); go_simp; (try with_reducible rfl))
      try simp only [Act.put, List.setIfInBounds_toArray, List.set_cons_zero, List.set_cons_succ]
      refine wpAnyH_take (i := 9) (oi := { dst := some 23, op := Op.fieldAddr 89 (Operand.tmp 22) 1, type := 0, pos := "law.go:47", after := #[{ on := 8, ground := Ground.data }], guard := none }) (v := ?vo10_9) rfl (by kernel_rfl) (by kernel_rfl) (by kernel_rfl) (fun _ _ _ h => h) (Or.inl ⟨by rfl, ?yo10_9⟩) (by assumption) ?ro10_9
      case yo10_9 => (intro w hSw; (try dsimp only at hSw); go_simp; (try with_reducible rfl))
      try simp only [Act.put, List.setIfInBounds_toArray, List.set_cons_zero, List.set_cons_succ]
      refine wpAnyH_take (i := 10) (oi := { dst := some 24, op := Op.load 9 (Operand.tmp 23), type := 9, pos := "law.go:47", after := #[{ on := 9, ground := Ground.data }], guard := none }) (v := ?vo11_10) rfl (by kernel_rfl) (by kernel_rfl) (by kernel_rfl) (fun _ _ _ h => h) (Or.inl ⟨by rfl, ?yo11_10⟩) (by assumption) ?ro11_10
      case yo11_10 => (intro w hSw; (try dsimp only at hSw); go_simp; (try with_reducible rfl))
      try simp only [Act.put, List.setIfInBounds_toArray, List.set_cons_zero, List.set_cons_succ]
      refine wpAnyH_take (i := 11) (oi := { dst := some 25, op := Op.move (Operand.tmp 4), type := 79, pos := "law.go:47", after := #[], guard := none }) (v := ?vo12_11) rfl (by kernel_rfl) (by kernel_rfl) (by kernel_rfl) (fun _ _ _ h => h) (Or.inl ⟨by rfl, ?yo12_11⟩) (by assumption) ?ro12_11
      case yo12_11 => (intro w hSw; (try dsimp only at hSw); go_simp; (try with_reducible rfl))
      try simp only [Act.put, List.setIfInBounds_toArray, List.set_cons_zero, List.set_cons_succ]
      refine wpAnyH_take (i := 12) (oi := { dst := some 26, op := Op.move (Operand.tmp 5), type := 3, pos := "law.go:47", after := #[], guard := none }) (v := ?vo13_12) rfl (by kernel_rfl) (by kernel_rfl) (by kernel_rfl) (fun _ _ _ h => h) (Or.inl ⟨by rfl, ?yo13_12⟩) (by assumption) ?ro13_12
      case yo13_12 => (intro w hSw; (try dsimp only at hSw); go_simp; (try with_reducible rfl))
      try simp only [Act.put, List.setIfInBounds_toArray, List.set_cons_zero, List.set_cons_succ]
      refine wpAnyH_take (i := 13) (oi := { dst := some 27, op := Op.indexAddr 79 (Operand.tmp 25) (Operand.tmp 26), type := 0, pos := "law.go:47", after := #[{ on := 11, ground := Ground.data }, { on := 12, ground := Ground.data }], guard := none }) (v := ?vo14_13) rfl (by kernel_rfl) (by kernel_rfl) (by kernel_rfl) (fun _ _ _ h => h) (Or.inl ⟨by rfl, ?yo14_13⟩) (by assumption) ?ro14_13
      case yo14_13 => (intro w hSw; (try dsimp only at hSw); go_simp; (try with_reducible rfl))
      try simp only [Act.put, List.setIfInBounds_toArray, List.set_cons_zero, List.set_cons_succ]
      refine wpAnyH_take (i := 14) (oi := { dst := some 28, op := Op.fieldAddr 89 (Operand.tmp 27) 2, type := 0, pos := "law.go:47", after := #[{ on := 13, ground := Ground.data }], guard := none }) (v := ?vo15_14) rfl (by kernel_rfl) (by kernel_rfl) (by kernel_rfl) (fun _ _ _ h => h) (Or.inl ⟨by rfl, ?yo15_14⟩) (by assumption) ?ro15_14
      case yo15_14 => (intro w hSw; (try dsimp only at hSw); go_simp; (try with_reducible rfl))
      try simp only [Act.put, List.setIfInBounds_toArray, List.set_cons_zero, List.set_cons_succ]
      refine wpAnyH_take (i := 15) (oi := { dst := some 29, op := Op.load 4 (Operand.tmp 28), type := 4, pos := "law.go:47", after := #[{ on := 14, ground := Ground.data }], guard := none }) (v := ?vo16_15) rfl (by kernel_rfl) (by kernel_rfl) (by kernel_rfl) (fun _ _ _ h => h) (Or.inl ⟨by rfl, ?yo16_15⟩) (by assumption) ?ro16_15
      case yo16_15 => (intro w hSw; (try dsimp only at hSw); go_simp; (try with_reducible rfl))
      try simp only [Act.put, List.setIfInBounds_toArray, List.set_cons_zero, List.set_cons_succ]
      refine wpAnyH_take (i := 16) (oi := { dst := some 30, op := Op.build 86 #[(0, Operand.tmp 19), (1, Operand.tmp 24), (2, Operand.tmp 29)], type := 86, pos := "law.go:47", after := #[{ on := 5, ground := Ground.data }, { on := 10, ground := Ground.data }, { on := 15, ground := Ground.data }], guard := none }) (v := ?vo17_16) rfl (by kernel_rfl) (by kernel_rfl) (by kernel_rfl) (fun _ _ _ h => h) (Or.inl ⟨by rfl, ?yo17_16⟩) (by assumption) ?ro17_16
      case yo17_16 => (intro w hSw; (try dsimp only at hSw); go_simp; (try with_reducible rfl))
      try simp only [Act.put, List.setIfInBounds_toArray, List.set_cons_zero, List.set_cons_succ]
      refine wpAnyH_ready (rs := [17]) (by kernel_rfl) (by simp) ?_
      refine AllReadyH.cons (o := { dst := some 31, op := Op.buildSlice 73 1 #[(0, Operand.tmp 30)], type := 73, pos := "law.go:47", after := #[{ on := 16, ground := Ground.data }], guard := none }) rfl (fun K hK => ?_) AllReadyH.nil
      go_simp; have HMC := hid (h1.out.mod.alloc (.cells #[Str x.key, Str x.val, .bool x.gone] 86)).drew
      refine hK.out _ _ ?_ (fun hHeld => ?_)
      · exact HX.out _ HMC.out
      clear hK K
      try simp only [Act.put, List.setIfInBounds_toArray, List.set_cons_zero, List.set_cons_succ]
      refine wpAnyH_ready (rs := [18]) (by kernel_rfl) (by simp) ?_
      refine AllReadyH.cons (o := { dst := some 32, op := Op.call { callee := Callee.builtin Builtin.append, args := #[Operand.tmp 14, Operand.tmp 31], argTypes := #[73, 73] }, type := 73, pos := "law.go:47", after := #[{ on := 0, ground := Ground.data }, { on := 17, ground := Ground.data }], guard := none }) rfl (fun K hK => ?_) AllReadyH.nil
      refine wp_append_R (.tmp 14) (.tmp 31) 73 rfl 86 it chZ 3 40 s_und73 HIX.out.1 HIX.out.2.1 HIX.out.2.2.1 HIX.out.2.2.2 rfl (by decide) (.slice va k vc) k (rowC L) rfl (h1.out.own_at HTL.out (Mod.refl None wr) _) _ 1 1 (chC x) rfl rfl (one_src wr 86 x) (ch_ones x) (by unfold maxLen; omega) (by omega) ?_; intro va2 vc2 w3 g2 g3 g4; have HC := hid (h1.out.snoc_at (w2 := wr.drew) (o := .cells #[Str x.key, Str x.val, .bool x.gone] 86) HTL.out (Mod.refl None wr).drew g2.out g3.out g4.out); have HMC := hid HC.out.mod; clear g2 g3 g4
      refine hK.out _ _ ?_ (fun hHeld => ?_)
      · exact HX.out _ HMC.out
      clear hK K
      try simp only [Act.put, List.setIfInBounds_toArray, List.set_cons_zero, List.set_cons_succ]
      refine wpAnyH_take (i := 19) (oi := { dst := some 3, op := Op.assign (Operand.tmp 32), type := 73, pos := "law.go:47", after := #[{ on := 18, ground := Ground.data }, { on := 18, ground := Ground.chain }, { on := 0, ground := Ground.phase }, { on := 1, ground := Ground.phase }, { on := 2, ground := Ground.phase }, { on := 3, ground := Ground.phase }, { on := 4, ground := Ground.phase }, { on := 5, ground := Ground.phase }, { on := 6, ground := Ground.phase }, { on := 7, ground := Ground.phase }, { on := 8, ground := Ground.phase }, { on := 9, ground := Ground.phase }, { on := 10, ground := Ground.phase }, { on := 11, ground := Ground.phase }, { on := 12, ground := Ground.phase }, { on := 13, ground := Ground.phase }, { on := 14, ground := Ground.phase }, { on := 15, ground := Ground.phase }, { on := 16, ground := Ground.phase }, { on := 17, ground := Ground.phase }, { on := 18, ground := Ground.phase }], guard := none }) (v := ?vo18_19) rfl (by kernel_rfl) (by kernel_rfl) (by kernel_rfl) (fun _ _ _ h => h) (Or.inl ⟨by rfl, ?yo18_19⟩) (by assumption) ?ro18_19
      case yo18_19 => (intro w hSw; (try dsimp only at hSw); go_simp; (try with_reducible rfl))
      try simp only [Act.put, List.setIfInBounds_toArray, List.set_cons_zero, List.set_cons_succ]
      refine wpAnyH_done (by kernel_rfl) ?_ _
      go_wp2_with fail
      go_roundw
      case rel => exact ⟨k + 1, va2, vc2, by omega, by go_num, rfl, by rw [HTS.out]; exact HC.out⟩
      case measure => simp [intOf]; omega
    · obtain rfl : k = n := by omega
      have hlt' : ¬ (k : Int) < (k : Int) := by omega
      have HE := hid (show l.take k = l by rw [HN.out, List.take_length])
      rw [HE.out] at h1
      go_wp2_with fail
      go_ret
      exact ⟨va, vc, by rw [← HN.out]; rfl, by rw [← HN.out]; exact h1.out.since HM1.out⟩
end Go.Proofs.Ytdhhpnfdnoaihaa

/-! T3 -/
/- The document's Same. -/
namespace Go.Proofs.Ytdhhpnfdnoaihaa
open Go.RowKit

def SameP (w : World) (b : Bool) (e : Ending) (w' : World) : Prop := e = .returned (.bool b) ∧ ∃ m, w' = w.drewN m
theorem ne_len {la lb : List Ch} (h : la.length ≠ lb.length) : decide (la = lb) = false := decide_eq_false (fun e => h (by rw [e]))
theorem ne_at {la lb : List Ch} {k : Nat} (h : nth la k ≠ nth lb k) : decide (la = lb) = false := decide_eq_false (fun e => h (by rw [e]))
theorem eq_all {la lb : List Ch} (hl : la.length = lb.length) (h : ∀ t, t < la.length → nth la t = nth lb t) : decide (la = lb) = true := by
  refine decide_eq_true (List.ext_getElem hl (fun i h1 h2 => ?_))
  have := h i h1
  rw [nth_at h1, nth_at h2] at this
  exact this
theorem str_ne {a b : List UInt8} (h : a ≠ b) : ((⟨a.toArray⟩ : ByteArray).toList == (⟨b.toArray⟩ : ByteArray).toList) = false := by
  rw [beq_eq_false_iff_ne, ByteArray.toList_eq, ByteArray.toList_eq]
  exact h
theorem drew_more (w : World) (m n : Nat) : (w.drewN m).drewN n = w.drewN (m + n) := by simp [World.drewN, Nat.add_assoc]
set_option maxRecDepth 100000 in
set_option maxHeartbeats 1600000 in
theorem same_any6 (w : World) (a b : Option Addr) (na nb ca cb : Nat) (la lb : List Ch) (hna : na = la.length) (hnb : nb = lb.length) (hra : RdV w a (rowC la)) (hrb : RdV w b (rowC lb)) (hfew : la.length ≤ 1000000) :
    Calls Try.prog 62 #[.slice a na ca, .slice b nb cb] w (SameP w (decide (la = lb))) := by
  have HA := hid hra
  have HB := hid hrb
  have HNA := hid hna
  have HNB := hid hnb
  have hn6 : na ≤ 1000000 := by omega
  clear hra hrb hfew
  by_cases hne : na = nb
  · subst hne
    clear hna hnb
    go_enter Try.func62, Try.ntmps62
    go_wp2_with fail
    go_loopw [5] (fun i wr => ∃ (k m : Nat), k ≤ na ∧ i = .int .i64 k ∧ wr = w.drewN m ∧ Hid (∀ t, t < k → nth la t = nth lb t)) (fun i _ => na - (intOf i).toNat)
    case atStart => exact ⟨0, 0, by omega, rfl, rfl, fun t ht => by omega⟩
    case round =>
      obtain ⟨k, m, hk, rfl, rfl, heq⟩ := hrel
      by_cases hlt : k < na
      · have hlt' : (k : Int) < (na : Int) := by omega
        obtain ⟨ba, oa, rfl, d1, d2, d3⟩ := rd_ch HA.out (k := k) (by have := HNA.out; omega)
        obtain ⟨bb, ob, rfl, f1, f2, f3⟩ := rd_ch HB.out (k := k) (by have := HNB.out; omega)
        have hx : nth la k = nth lb k ∨ nth la k ≠ nth lb k := Classical.em _
        have HD := hid (fun (h : nth la k ≠ nth lb k) => ne_at h)
        have HQ := hid (fun (h : nth la k = nth lb k) => show ∀ t, t < k + 1 → nth la t = nth lb t from fun t ht => by
          rcases Nat.lt_or_ge t k with h3 | h3
          · exact heq.out t h3
          · obtain rfl : t = k := by omega
            exact h)
        generalize nth la k = x at *
        generalize nth lb k = y at *
        unfold Str at d1 d2 f1 f2
        by_cases he : x = y
        · have HEQ := hid (HQ.out he)
          rw [← he] at f1 f2 f3
          clear HD HQ hx he
          go_wp2_with fail
          go_quiet (fail)
          have hw1 : IntKind.i64.wrap ((k : Int) + 1) = (k : Int) + 1 := by rw [IntKind.wrap_i64]; omega
          go_wp2_with fail
          go_roundw
          case rel => exact ⟨k + 1, _, by omega, by go_num, rfl, HEQ.out⟩
          case measure => simp [intOf]; omega
        · have HF := hid (HD.out he)
          rw [HF.out]
          clear HD HQ hx
          by_cases h1 : x.key = y.key
          · rw [← h1] at f1
            by_cases h2 : x.val = y.val
            · rw [← h2] at f2
              have h3 : (x.gone == y.gone) = false := by
                rw [beq_eq_false_iff_ne]
                intro h3
                exact he (by cases x; cases y; simp_all)
              clear he h1 h2
              go_wp2_with fail
              go_quiet (fail)
              go_wp2_with fail
              go_ret
              exact ⟨rfl, _, drew_more _ _ _⟩
            · have h3 := str_ne h2
              have h4 : (x.val == y.val) = false := beq_eq_false_iff_ne.2 h2
              clear he h1
              go_wp2_with fail
              go_quiet (fail)
              go_wp2_with fail
              go_ret
              exact ⟨rfl, _, drew_more _ _ _⟩
          · have h3 := str_ne h1
            have h4 : (x.key == y.key) = false := beq_eq_false_iff_ne.2 h1
            clear he
            go_wp2_with fail
            go_quiet (fail)
            go_wp2_with fail
            go_ret
            exact ⟨rfl, _, drew_more _ _ _⟩
      · obtain rfl : k = na := by omega
        have hlt' : ¬ (k : Int) < (k : Int) := by omega
        have HE := hid (eq_all (HNA.out.symm.trans HNB.out) (by rw [← HNA.out]; exact heq.out))
        go_wp2_with fail
        go_ret
        exact ⟨by rw [HE.out]; rfl, m, rfl⟩
  · have hb : ((na : Int) != (nb : Int)) = true := by simp; omega
    have hb2 : ¬ (na : Int) = (nb : Int) := by omega
    rw [ne_len (by rw [← HNA.out, ← HNB.out]; exact hne)]
    go_enter Try.func62, Try.ntmps62
    go_wp2_with fail
    go_ret
    exact ⟨rfl, 0, rfl⟩
end Go.Proofs.Ytdhhpnfdnoaihaa

/-! T4 -/
/- The document's Do. -/
namespace Go.Proofs.Ytdhhpnfdnoaihaa
open Go.RowKit

theorem doF_same {laid : Bool} {l : List Ch} {c : Ch} {k : Nat} (h : k < l.length) (he : (nth l k).key = c.key) : doF laid (l.drop k) c = doF laid (l.drop (k + 1)) c := by
  rw [List.drop_eq_getElem_cons h, doF, if_pos (by rw [← nth_at h]; exact he)]
theorem doF_put {l : List Ch} {c : Ch} {k : Nat} (h : k < l.length) (he : (nth l k).key ≠ c.key) (hl : klt c.key (nth l k).key = true) : doF false (l.drop k) c = c :: nth l k :: doF true (l.drop (k + 1)) c := by
  rw [List.drop_eq_getElem_cons h, doF, if_neg (by rw [← nth_at h]; exact he), if_pos (by rw [← nth_at h]; simp [hl]), nth_at h]
theorem doF_pass {laid : Bool} {l : List Ch} {c : Ch} {k : Nat} (h : k < l.length) (he : (nth l k).key ≠ c.key) (hl : laid = true ∨ klt c.key (nth l k).key = false) : doF laid (l.drop k) c = nth l k :: doF laid (l.drop (k + 1)) c := by
  rw [List.drop_eq_getElem_cons h, doF, if_neg (by rw [← nth_at h]; exact he), if_neg (by rw [← nth_at h]; rcases hl with hl | hl <;> simp [hl]), nth_at h]
theorem len1 (L : List Ch) (x : Ch) : (L ++ [x]).length = L.length + 1 := by simp
set_option maxRecDepth 100000 in
set_option maxHeartbeats 3200000 in
theorem do_any (w : World) (a : Option Addr) (n ca : Nat) (l : List Ch) (hn : n = l.length) (hr : RdV w a (rowC l)) (hfew : l.length ≤ 1000000) (c : Ch) : Calls Try.prog 94 #[.slice a n ca, chV c] w (CPostR 86 w (doL l c)) := by
  have HR := hid hr
  have HN := hid hn
  have hn6 : n ≤ 1000000 := by omega
  clear hr hn hfew
  obtain ⟨it, hit, hz, hsz, hby⟩ := info_parts s_info86
  have HIX := hid (And.intro hit (And.intro hz (And.intro hsz hby)))
  clear hit hz hsz hby
  obtain ⟨ck, cv, g0⟩ := c
  have HDL := hid (show doL l ⟨ck, cv, g0⟩ = doF g0 l ⟨ck, cv, false⟩ from rfl)
  have hbx : Blk (w.alloc (.cells #[Str ck, Str cv, .bool false] 86)) w.heap.size 86 [Str ck, Str cv, .bool false] := Blk.new w 86 _
  unfold chV
  unfold Str at *
  dsimp only
  go_enter Try.func94, Try.ntmps94
  go_wp2_with fail
  have HB1 := hid hbx
  have HM1 := hid ((Mod.refl None w).alloc (.cells #[.string { data := ck.toArray }, .string { data := cv.toArray }, .bool false] 86))
  clear hbx
  generalize w.alloc (.cells #[.string { data := ck.toArray }, .string { data := cv.toArray }, .bool false] 86) = w1 at *
  generalize w.heap.size = q at *
  have HC0 := hid (show chC ⟨ck, cv, false⟩ = [.string { data := ck.toArray }, .string { data := cv.toArray }, .bool false] from rfl)
  go_loopw [5, 6, 7] (fun v bl i wr => ∃ (k : Nat) (va : Option Addr) (vc : Nat) (laid : Bool) (L : List Ch), k ≤ n ∧ i = .int .i64 k ∧ bl = .bool laid ∧ v = .slice va L.length vc ∧ Hid (CRow 86 w1 wr (.slice va L.length vc) L) ∧ Hid (L ++ doF laid (l.drop k) ⟨ck, cv, false⟩ = doL l ⟨ck, cv, g0⟩) ∧ L.length ≤ k + 1 ∧ Hid (laid = false → L.length ≤ k)) (fun _ _ i _ => n - (intOf i).toNat)
  case atStart => exact ⟨0, none, 0, g0, [], by omega, rfl, rfl, rfl, CRow.nil 86 w1, by rw [HDL.out]; rfl, by simp, fun _ => Nat.zero_le _⟩
  case round =>
    obtain ⟨k, va, vc, laid, L, hk, rfl, rfl, rfl, h1, hR, hlen, hlf⟩ := hrel
    have b0 : wr.cell? ⟨q, 0, none⟩ = some (.string { data := ck.toArray }) := (h1.out.mod.blk HB1.out (fun h => h)).is rfl
    have b1 : wr.cell? ⟨q, 1, none⟩ = some (.string { data := cv.toArray }) := (h1.out.mod.blk HB1.out (fun h => h)).is rfl
    have b2 : wr.cell? ⟨q, 2, none⟩ = some (.bool false) := (h1.out.mod.blk HB1.out (fun h => h)).is rfl
    by_cases hlt : k < n
    · have hlt' : (k : Int) < (n : Int) := by omega
      have hkl : k < l.length := by have := HN.out; omega
      obtain ⟨b, o, rfl, e1, e2, e3⟩ := rd_ch HR.out hkl
      have HE0 := hid (And.intro e1 (And.intro e2 e3))
      have HX := hid (held3 e1 e2 e3 (HM1.out.trans h1.out.mod))
      obtain ⟨e1, e2, e3⟩ := HX.out
      by_cases hke : (nth l k).key = ck
      · have HRN := hid (show L ++ doF laid (l.drop (k + 1)) ⟨ck, cv, false⟩ = doL l ⟨ck, cv, g0⟩ by rw [← doF_same hkl hke]; exact hR.out)
        rw [hke] at e1
        generalize nth l k = x at *
        go_wp2_with fail
        go_quiet (fail)
        go_wp2_with fail
        go_roundw
        case rel => exact ⟨k + 1, va, vc, laid, L, by omega, by go_num, rfl, rfl, h1.out.keep (mod_drewN _ _), HRN.out, by omega, fun h => by have := hlf.out h; omega⟩
        case measure => simp [intOf]; omega
      · have hne1 := str_ne hke
        have hne2 : ((nth l k).key == ck) = false := beq_eq_false_iff_ne.2 hke
        have HPUT := hid (fun h => doF_put (c := ⟨ck, cv, false⟩) hkl hke h)
        have HPASS := hid (fun b h => doF_pass (laid := b) (c := ⟨ck, cv, false⟩) hkl hke h)
        dsimp only at HPUT HPASS
        generalize nth l k = x at *
        cases laid with
        | true =>
          have HRN := hid (show (L ++ [x]) ++ doF true (l.drop (k + 1)) ⟨ck, cv, false⟩ = doL l ⟨ck, cv, g0⟩ by rw [List.append_assoc, ← hR.out, HPASS.out true (.inl rfl)]; rfl)
          have HSR := hid (fun t => (one_src wr t x))
          go_wp2_with fail
          go_quiet (fail)
          go_wp2_with fail
          go_quiet (fail)
          go_wp2_with (at_builtin; go_loud (refine wpList_plain rfl (fun K hK => wp_append_R (.tmp 41) (.tmp 46) 73 rfl 86 it chZ 3 40 s_und73 HIX.out.1 HIX.out.2.1 HIX.out.2.2.1 HIX.out.2.2.2 rfl (by decide) _ _ _ rfl (h1.out.own_at rfl (mod_drewN wr _) _) _ 1 1 (chC x) rfl rfl (one_src _ 86 x) (ch_ones x) (by unfold maxLen; omega) (by omega) (fun vx vxc w3 g2 g3 g4 => hK _ _ ?_))); have HC1 := hid (h1.out.snoc_at rfl (mod_drewN wr _) g2.out g3.out g4.out); clear g2 g3 g4)
          go_roundw
          case rel => exact ⟨k + 1, vx, vxc, true, L ++ [x], by omega, by go_num, rfl, by rw [len1], by rw [len1]; exact HC1.out, HRN.out, by rw [len1]; omega, fun h => by cases h⟩
          case measure => simp [intOf]; omega
        | false =>
          cases hkl2 : klt ck x.key with
          | true =>
            have HRN := hid (show (L ++ [⟨ck, cv, false⟩] ++ [x]) ++ doF true (l.drop (k + 1)) ⟨ck, cv, false⟩ = doL l ⟨ck, cv, g0⟩ by rw [← hR.out, HPUT.out hkl2]; simp)
            unfold klt at hkl2
            go_wp2_with fail
            go_quiet (fail)
            go_wp2_with fail
            go_quiet (fail)
            clear e1 e2 e3
            go_wp2_with (first | (at_builtin; refine wpList_plain rfl (fun K hK => wp_append_R (.tmp 37) (.tmp 39) 73 rfl 86 it chZ 3 40 s_und73 HIX.out.1 HIX.out.2.1 HIX.out.2.2.1 HIX.out.2.2.2 rfl (by decide) _ _ _ rfl (h1.out.own_at rfl (mod_drewN wr _) _) _ 1 1 (chC ⟨ck, cv, false⟩) rfl rfl (one_src _ 86 ⟨ck, cv, false⟩) (ch_ones ⟨ck, cv, false⟩) (by unfold maxLen; omega) (by omega) (fun vx vxc w3 g2 g3 g4 => hK _ _ ?_)); have HC1 := hid (h1.out.snoc_at rfl (mod_drewN wr _) g2.out g3.out g4.out); clear g2 g3 g4; have HX3 := hid (held3 HE0.out.1 HE0.out.2.1 HE0.out.2.2 (HM1.out.trans HC1.out.mod)); obtain ⟨e1, e2, e3⟩ := HX3.out) | (at_builtin; refine wpList_plain rfl (fun K hK => wp_append_R (.tmp 41) (.tmp 46) 73 rfl 86 it chZ 3 40 s_und73 HIX.out.1 HIX.out.2.1 HIX.out.2.2.1 HIX.out.2.2.2 rfl (by decide) _ _ _ rfl (HC1.out.own_at (len1 _ _) (Mod.refl None w3) _) _ 1 1 (chC x) rfl rfl (one_src _ 86 x) (ch_ones x) (by unfold maxLen; omega) (by omega) (fun vy vyc w4 g2 g3 g4 => hK _ _ ?_)); have HC2 := hid (HC1.out.snoc_at (len1 _ _) (Mod.refl None w3) g2.out g3.out g4.out); clear g2 g3 g4))
            go_roundw
            case rel => exact ⟨k + 1, vy, vyc, true, L ++ [(⟨ck, cv, false⟩ : Ch)] ++ [x], by omega, by go_num, rfl, by rw [len1, len1], by rw [len1, len1]; exact HC2.out, HRN.out, by rw [len1, len1]; have := hlf.out trivial; omega, fun h => by cases h⟩
            case measure => simp [intOf]; omega
          | false =>
            have HRN := hid (show (L ++ [x]) ++ doF false (l.drop (k + 1)) ⟨ck, cv, false⟩ = doL l ⟨ck, cv, g0⟩ by rw [List.append_assoc, ← hR.out, HPASS.out false (.inr hkl2)]; rfl)
            unfold klt at hkl2
            go_wp2_with fail
            go_quiet (fail)
            go_wp2_with fail
            go_quiet (fail)
            go_wp2_with (at_builtin; go_loud (refine wpList_plain rfl (fun K hK => wp_append_R (.tmp 41) (.tmp 46) 73 rfl 86 it chZ 3 40 s_und73 HIX.out.1 HIX.out.2.1 HIX.out.2.2.1 HIX.out.2.2.2 rfl (by decide) _ _ _ rfl (h1.out.own_at rfl (mod_drewN wr _) _) _ 1 1 (chC x) rfl rfl (one_src _ 86 x) (ch_ones x) (by unfold maxLen; omega) (by omega) (fun vx vxc w3 g2 g3 g4 => hK _ _ ?_))); have HC1 := hid (h1.out.snoc_at rfl (mod_drewN wr _) g2.out g3.out g4.out); clear g2 g3 g4)
            go_roundw
            case rel => exact ⟨k + 1, vx, vxc, false, L ++ [x], by omega, by go_num, rfl, by rw [len1], by rw [len1]; exact HC1.out, HRN.out, by rw [len1]; omega, fun _ => by rw [len1]; have := hlf.out trivial; omega⟩
            case measure => simp [intOf]; omega
    · obtain rfl : k = n := by omega
      have hlt' : ¬ (k : Int) < (k : Int) := by omega
      have HE := hid (show l.drop k = [] by rw [HN.out, List.drop_length])
      cases laid with
      | true =>
        have HF := hid (show L = doL l ⟨ck, cv, g0⟩ by have := hR.out; rw [HE.out] at this; rw [← this]; simp [doF])
        go_wp2_with fail
        go_ret
        exact ⟨va, vc, by rw [← HF.out]; rfl, by rw [← HF.out]; exact h1.out.since HM1.out⟩
      | false =>
        have HF := hid (show L ++ [⟨ck, cv, false⟩] = doL l ⟨ck, cv, g0⟩ by have := hR.out; rw [HE.out] at this; rw [← this]; simp [doF])
        go_wp2_with (at_builtin; go_loud (refine wpList_plain rfl (fun K hK => wp_append_R (.tmp 50) (.tmp 52) 73 rfl 86 it chZ 3 40 s_und73 HIX.out.1 HIX.out.2.1 HIX.out.2.2.1 HIX.out.2.2.2 rfl (by decide) _ _ _ rfl (h1.out.own_at rfl (Mod.refl None wr) _) _ 1 1 (chC ⟨ck, cv, false⟩) rfl rfl (one_src _ 86 ⟨ck, cv, false⟩) (ch_ones ⟨ck, cv, false⟩) (by unfold maxLen; omega) (by omega) (fun vx vxc w3 g2 g3 g4 => hK _ _ ?_))); have HC1 := hid (h1.out.snoc_at rfl (Mod.refl None wr) g2.out g3.out g4.out); clear g2 g3 g4)
        go_ret
        have hc := HC1.out
        rw [HF.out] at hc
        have hl : L.length + 1 = (doL l ⟨ck, cv, g0⟩).length := by rw [← HF.out, len1]
        exact ⟨vx, vxc, by rw [← hl]; rfl, by rw [← hl]; exact hc.since HM1.out⟩
end Go.Proofs.Ytdhhpnfdnoaihaa

/-! T5 -/
/- The document's All. -/
namespace Go.Proofs.Ytdhhpnfdnoaihaa
open Go.RowKit

def AllR (w : World) (L : List Ch) (e : Ending) (w' : World) : Prop := ∃ a c, e = .returned (.slice a L.length c) ∧ RdV w' a (rowC L) ∧ Mod None w w'
theorem all_take {l batch : List Ch} {k : Nat} (h : k < batch.length) : allL l (batch.take (k + 1)) = doL (allL l (batch.take k)) (nth batch k) := by
  rw [take_succ_ch h]; exact all_snoc _ _ _
theorem do_row {w w' : World} {L : List Ch} {e : Ending} (h : CPostR 86 w L e w') : AllR w L e w' := by
  obtain ⟨a, c, he, hr⟩ := h
  obtain ⟨a', c', e', hrd⟩ := hr.shape
  obtain ⟨rfl, rfl⟩ : a = a' ∧ c = c' := by injection e' with e1 e2 e3; exact ⟨e1, e3⟩
  exact ⟨a, c, he, hrd, hr.mod⟩
set_option maxRecDepth 100000 in
set_option maxHeartbeats 1600000 in
theorem all_any (w : World) (a : Option Addr) (n ca : Nat) (l : List Ch) (hn : n = l.length) (hr : RdV w a (rowC l)) (hR : Rising l) (ab : Option Addr) (nb cb : Nat) (batch : List Ch) (hnb : nb = batch.length) (hrb : RdV w ab (rowC batch)) (hfew : l.length + batch.length ≤ 1000000) :
    Calls Try.prog 56 #[.slice a n ca, .slice ab nb cb] w (AllR w (allL l batch)) := by
  have HRB := hid hrb
  have HN := hid hnb
  have HLEN := hid (fun k => all_len (batch.take k) hR)
  have HF := hid hfew
  have HST := hid (show n = (allL l (batch.take 0)).length by rw [List.take_zero]; exact hn)
  have HRR := hid (show RdV w a (rowC (allL l (batch.take 0))) by rw [List.take_zero]; exact hr)
  have hnb6 : nb ≤ 1000000 := by omega
  clear hr hrb hR hn hnb hfew
  go_enter Try.func56, Try.ntmps56
  go_wp2_with fail
  go_loopw [5, 6] (fun v i wr => ∃ (k : Nat) (va : Option Addr) (vc : Nat), k ≤ nb ∧ i = .int .i64 k ∧ v = .slice va (allL l (batch.take k)).length vc ∧ Hid (RdV wr va (rowC (allL l (batch.take k)))) ∧ Hid (Mod None w wr)) (fun _ i _ => nb - (intOf i).toNat)
  case atStart => exact ⟨0, a, ca, by omega, rfl, by rw [← HST.out], HRR.out, Mod.refl _ _⟩
  case round =>
    obtain ⟨k, va, vc, hk, rfl, rfl, h1, hm⟩ := hrel
    by_cases hlt : k < nb
    · have hlt' : (k : Int) < (nb : Int) := by omega
      have hkb : k < batch.length := by have := HN.out; omega
      obtain ⟨b, o, rfl, e1, e2, e3⟩ := rd_ch (hm.out.rdv HRB.out (fun _ _ h => h)) hkb
      have HS := hid (all_take (l := l) hkb)
      have HLK := hid (show (allL l (batch.take k)).length ≤ 1000000 by
        have h1 := HLEN.out k
        have h2 : (batch.take k).length ≤ batch.length := by rw [List.length_take]; omega
        have := HF.out; omega)
      have HDO := hid (do_any wr va (allL l (batch.take k)).length vc (allL l (batch.take k)) rfl h1.out HLK.out (nth batch k))
      generalize allL l (batch.take k) = L at *
      generalize nth batch k = x at *
      unfold Str at e1 e2
      unfold chV Str at HDO
      go_wp2_with fail
      refine HDO.out.mono ?_
      intro e w2 hp
      obtain ⟨a2, c2, rfl, hr2, hm2⟩ := do_row hp
      have HR2 := hid hr2
      have HM2 := hid (hm.out.trans hm2)
      clear hp hr2 hm2 HDO
      go_wp2_with fail
      go_roundw
      case rel => exact ⟨k + 1, a2, c2, by omega, by go_num, by rw [HS.out], by rw [HS.out]; exact HR2.out, HM2.out⟩
      case measure => simp [intOf]; omega
    · obtain rfl : k = nb := by omega
      have hlt' : ¬ (k : Int) < (k : Int) := by omega
      have HE := hid (show allL l (batch.take k) = allL l batch by rw [HN.out, List.take_length])
      rw [HE.out] at h1 ⊢
      go_wp2_with fail
      go_ret
      exact ⟨va, vc, rfl, h1.out, hm.out⟩
end Go.Proofs.Ytdhhpnfdnoaihaa

/-! T6 -/
/- The weight of pairs; what a Commit answers. -/
namespace Go.Proofs.Ytdhhpnfdnoaihaa
open Go.RowKit

def sumC (l : List Ch) : Nat := (l.map wtC).sum
theorem sumC_cons (x : Ch) (l : List Ch) : sumC (x :: l) = wtC x + sumC l := by simp [sumC]
theorem wtL_sum (l : List Ch) : wtL l = 8 + sumC l := rfl
theorem sum_doF : ∀ (l : List Ch) (g : Bool) (c : Ch), sumC (doF g l c) ≤ sumC l + (if g then 0 else wtC c)
  | [], g, c => by
    unfold doF
    cases g <;> simp [sumC]
  | x :: l, g, c => by
    unfold doF
    by_cases h1 : x.key = c.key
    · rw [if_pos h1, sumC_cons]
      have := sum_doF l g c
      omega
    · rw [if_neg h1]
      by_cases h2 : (!g && klt c.key x.key) = true
      · rw [if_pos h2, sumC_cons, sumC_cons, sumC_cons]
        have := sum_doF l true c
        rw [Bool.and_eq_true] at h2
        have hg : g = false := by simpa using h2.1
        subst hg
        simp only [if_true, Bool.false_eq_true, if_false] at *
        omega
      · rw [if_neg h2, sumC_cons, sumC_cons]
        have := sum_doF l g c
        omega
theorem sum_doL (l : List Ch) (c : Ch) : sumC (doL l c) ≤ sumC l + wtC c := by
  have h := sum_doF l c.gone { c with gone := false }
  have e : wtC { c with gone := false } = wtC c := rfl
  rw [e] at h
  unfold doL
  cases hg : c.gone <;> simp [hg] at h <;> omega
theorem sum_allL : ∀ (b l : List Ch), sumC (allL l b) ≤ sumC l + sumC b
  | [], l => by show sumC l ≤ _; omega
  | c :: b, l => by
    have h1 := sum_allL b (doL l c)
    have h2 := sum_doL l c
    rw [sumC_cons]
    show sumC (allL (doL l c) b) ≤ _
    omega
theorem wt_all (l : List Ch) : wtL (allL [] l) ≤ wtL l := by
  have := sum_allL l []
  have e : sumC [] = 0 := rfl
  rw [wtL_sum, wtL_sum]; omega
/-- what a Commit answers, and what there is then -/
theorem SSt.commit_says (σ : SSt) (l : List Ch) : ((σ.commit l).2 = 0 ∧ (σ.commit l).1.has = allL σ.has l) ∨ ((σ.commit l).2 = 51 ∧ (σ.commit l).1 = σ ∧ ¬ fits σ.st 0 (encL (allL σ.has l)).length ∧ ¬ fits σ.st σ.en (encL l).length) := by
  by_cases h1 : fits σ.st σ.en (encL l).length
  · rw [SSt.commit_fits h1]; exact .inl ⟨rfl, rfl⟩
  · by_cases h2 : fits σ.st 0 (encL (allL σ.has l)).length
    · rw [SSt.commit_turns h1 h2]; exact .inl ⟨rfl, rfl⟩
    · rw [SSt.commit_full h1 h2]; exact .inr ⟨rfl, rfl, h2, h1⟩
/-- another call, which writes what the store does not hold -/
theorem IsStore.other {w0 w w' : World} {T : Nat → Prop} {s p : Nat} {σ : SSt} {U : Nat → Prop} (h : IsStore w0 w T s p σ) (hm : Mod U w w') (hU : ∀ k, U k → ¬ T k ∧ w0.heap.size ≤ k) : IsStore w0 w' T s p σ := by
  obtain ⟨S, c, j, v, h, h1, h2⟩ := h
  have hn : ∀ k, T k → ¬ U k := fun k hk hu => (hU k hu).1 hk
  refine ⟨S, c, j, v, ?_, h1, fun k hk => ⟨Nat.lt_of_lt_of_le (h2 k hk).1 hm.size, (h2 k hk).2⟩⟩
  exact {
    live := (h.live.turn (T := U) (T' := U) (.same hm) (fun k hk => hn k (h1 k (.inl hk))) (fun k hu => (hU k hu).2)).1
    obj := hm.blk h.obj (hn s (h1 s (.inr (.inl rfl))))
    cell := hm.blk h.cell (hn c (h1 c (.inr (.inr (.inl rfl)))))
    log := hm.blk h.log (hn j (h1 j (.inr (.inr (.inr (.inl rfl))))))
    row := row_kept h.row hm (fun g hg => hn g (h1 g (.inr (.inr (.inr (.inr hg))))))
    sS := h.sS
    cS := h.cS
    jS := h.jS
    vS := h.vS
    s0 := h.s0
    c0 := h.c0
    j0 := h.j0
    v0 := h.v0
    ok := h.ok }
end Go.Proofs.Ytdhhpnfdnoaihaa

/-! T7 -/
/- The walk of StoreKeeps. -/
namespace Go.Proofs.Ytdhhpnfdnoaihaa
open Go.RowKit

/-- changes that are handed in -/
def VChs (w : World) (v : Value) (l : List Ch) : Prop := ∃ a cap, v = .slice a l.length cap ∧ RdV w a (rowC l) ∧ wtL l ≤ 100000000
def spoilt : List UInt8 := [115, 112, 111, 105, 108, 116]
/-- the batch's row: from i on it is as it was handed in -/
def KRow (wr : World) (a : Option Addr) (l : List Ch) (i : Nat) : Prop := l = [] ∨ ∃ g cs, a = some ⟨g, 0, none⟩ ∧ Blk wr g 89 cs ∧ (∀ t, t < l.length → (∃ u, cs[t * 3]? = some u) ∧ (i ≤ t → cs[t * 3]? = some (Str (nth l t).key)) ∧ cs[t * 3 + 1]? = some (Str (nth l t).val) ∧ cs[t * 3 + 2]? = some (.bool (nth l t).gone))
theorem KRow.of {w wr : World} {a : Option Addr} {c : Nat} {l : List Ch} (h : CRow 89 w wr (.slice a l.length c) l) : KRow wr a l 0 := by
  by_cases h0 : 0 < l.length
  · obtain ⟨g, cap, rest, e, _, hb, _⟩ := OwnR.open1 (S := fun _ => True) ⟨h.own, fun _ _ => trivial⟩ h0
    obtain ⟨rfl, _⟩ : a = some ⟨g, 0, none⟩ ∧ c = cap := by simpa using e
    refine .inr ⟨g, _, rfl, hb, fun t ht => ?_⟩
    obtain ⟨k0, k1, k2⟩ := rowC_at l t ht
    have hl := rowC_length l
    refine ⟨⟨_, by rw [List.getElem?_append_left (by omega)]; exact k0⟩, fun _ => by rw [List.getElem?_append_left (by omega)]; exact k0, by rw [List.getElem?_append_left (by omega)]; exact k1, by rw [List.getElem?_append_left (by omega)]; exact k2⟩
  · exact .inl (List.eq_nil_of_length_eq_zero (by omega))
theorem KRow.keep {wr wq : World} {a : Option Addr} {l : List Ch} {i : Nat} {U : Nat → Prop} (h : KRow wr a l i) (hm : Mod U wr wq) (hU : ∀ g, a = some ⟨g, 0, none⟩ → ¬ U g) : KRow wq a l i := by
  rcases h with h | ⟨g, cs, rfl, hb, hc⟩
  · exact .inl h
  · exact .inr ⟨g, cs, rfl, hm.blk hb (hU g rfl), hc⟩
theorem KRow.at {wr : World} {a : Option Addr} {l : List Ch} {i t : Nat} (h : KRow wr a l i) (ht : t < l.length) (hi : i ≤ t) : ∃ g, a = some ⟨g, 0, none⟩ ∧ wr.cell? ⟨g, t * 3, none⟩ = some (Str (nth l t).key) ∧ wr.cell? ⟨g, t * 3 + 1, none⟩ = some (Str (nth l t).val) ∧ wr.cell? ⟨g, t * 3 + 2, none⟩ = some (.bool (nth l t).gone) ∧ ∀ k, wr.frozen? ⟨g, k, none⟩ = false := by
  rcases h with rfl | ⟨g, cs, rfl, hb, hc⟩
  · simp at ht
  · obtain ⟨_, h1, h2, h3⟩ := hc t ht
    exact ⟨g, rfl, hb.is (h1 hi), hb.is h2, hb.is h3, fun k => hb.free k⟩
theorem KRow.spoil {wr : World} {g : Nat} {l : List Ch} {i : Nat} (h : KRow wr (some ⟨g, 0, none⟩) l i) (u : Value) : KRow (wr.setCell ⟨g, i * 3, none⟩ u) (some ⟨g, 0, none⟩) l (i + 1) := by
  rcases h with h | ⟨g', cs, e, hb, hc⟩
  · exact .inl h
  · obtain rfl : g = g' := by simpa using e
    refine .inr ⟨g, _, rfl, hb.set (i * 3) u, fun t ht => ?_⟩
    obtain ⟨⟨u', h0⟩, h1, h2, h3⟩ := hc t ht
    refine ⟨?_, fun hi => ?_, ?_, ?_⟩
    · by_cases e : i * 3 = t * 3
      · rw [e]
        have hl : t * 3 < cs.length := by
          rcases Nat.lt_or_ge (t * 3) cs.length with h | h
          · exact h
          · rw [List.getElem?_eq_none h] at h0; cases h0
        exact ⟨u, List.getElem?_set_self hl⟩
      · exact ⟨u', by rw [List.getElem?_set_ne e]; exact h0⟩
    · rw [List.getElem?_set_ne (by omega)]; exact h1 (by omega)
    · rw [List.getElem?_set_ne (by omega)]; exact h2
    · rw [List.getElem?_set_ne (by omega)]; exact h3
/-- values that are written over -/
def URow (wr : World) (a : Option Addr) (n : Nat) : Prop := n = 0 ∨ ∃ g cs, a = some ⟨g, 0, none⟩ ∧ Blk wr g 89 cs ∧ n * 3 ≤ cs.length
theorem URow.of {w wr : World} {a : Option Addr} {c : Nat} {l : List Ch} (h : ChRow w wr (.slice a l.length c) l) : URow wr a l.length := by
  by_cases h0 : 0 < l.length
  · obtain ⟨g, cap, rest, e, _, hb, h1, _, h3⟩ := h.open1 h0
    obtain ⟨rfl, _⟩ : a = some ⟨g, 0, none⟩ ∧ c = cap := by simpa using e
    exact .inr ⟨g, _, rfl, hb, by omega⟩
  · exact .inl (by omega)
theorem URow.set {wr : World} {g n : Nat} {cs : List Value} (hb : Blk wr g 89 cs) (hn : n * 3 ≤ cs.length) (i : Nat) (u : Value) : URow (wr.setCell ⟨g, i, none⟩ u) (some ⟨g, 0, none⟩) n :=
  .inr ⟨g, _, rfl, hb.set i u, by rw [List.length_set]; exact hn⟩
set_option maxRecDepth 100000 in
set_option maxHeartbeats 3200000 in
theorem StoreKeeps_walk (w : World) (v0 : Value) (l : List Ch) (w0 : VChs w v0 l) :
    Calls Try.prog 18 #[v0] w fun e w' => e = .returned (.bool true) ∧ Below w.heap.size w w' := by
  obtain ⟨a, cap, rfl, hrd, hwt⟩ := w0
  have HRD := hid hrd
  have HWT := hid hwt
  clear hrd hwt
  go_enter Try.func18, Try.ntmps18
  go_wp2_with fail
  refine (live_new w w (Mod.refl _ _) 4000 4000 (by omega)).mono ?_
  rintro e w1 ⟨p, S, rfl, hl, _, _⟩
  have HL := hid hl
  clear hl
  go_wp2_with fail
  refine (is_open HL.out (by omega) (by omega)).mono ?_
  rintro e w2 ⟨s, T, rfl, hs, _⟩
  have HS := hid hs
  clear hs HL
  go_wp2_with fail
  refine (awake6_any w2).mono ?_
  rintro e w3 ⟨rfl, hm3⟩
  have HS3 := hid (HS.out.step hm3)
  clear hm3 HS
  go_wp2_with fail
  refine (few_any w3 a l.length cap).mono ?_
  rintro e w4 ⟨rfl, rfl⟩
  by_cases h3 : l.length ≤ 300
  · rw [decide_eq_true h3]
    go_wp2_with fail
    refine (batch_any w3 a l.length cap l rfl (HS3.out.mod.rdv HRD.out (fun _ _ h => h)) (by omega)).mono ?_
    rintro e w4 ⟨ba, bc, rfl, hb4⟩
    have HB4 := hid hb4
    have HS4 := hid (HS3.out.step hb4.mod)
    obtain ⟨ra, rc, re, hrd4⟩ := hb4.shape
    obtain ⟨rfl, rfl⟩ : ba = ra ∧ bc = rc := by injection re with e1 e2 e3; exact ⟨e1, e3⟩
    have HC := hid (is_commit HS4.out (by decide) l ba l.length bc rfl hrd4 (by show 0 + l.length ≤ _; omega) HWT.out (Nat.le_trans (wt_all l) HWT.out))
    have HTB := hid (show ∀ g, (Value.slice ba l.length bc).ownBlock = some g → ¬ T g ∧ w.heap.size ≤ g ∧ g < w4.heap.size from fun g hg => by
      obtain ⟨S', c', j', v', _, _, h2⟩ := HS3.out
      have h0 := HS3.out.mod.size
      have h1 := hb4.new g hg
      obtain ⟨cs, hk⟩ := row_blk hb4.own hg
      exact ⟨fun ht => by have := (h2 g ht).1; omega, by omega, hk.lt⟩)
    clear hb4 re hrd4
    have HSAY := hid ((SSt.new (DSt.new 4000)).commit_says l)
    generalize hr : (SSt.new (DSt.new 4000)).commit l = r at *
    clear hr
    go_wp2_with fail
    refine HC.out.mono ?_
    rintro e w5 ⟨T5, rfl, hs5, t5⟩
    have HS5 := hid hs5
    have HT5 := hid t5
    clear hs5 t5 HC
    rcases HSAY.out with ⟨hz, hhas⟩ | ⟨hz, _⟩
    · rw [hz]
      have HAS := hid (show r.1.has = allL [] l from hhas)
      clear hz hhas HSAY
      have HKB := hid (show ∀ g, ba = some ⟨g, 0, none⟩ → 0 < l.length → ¬ T5 g ∧ w.heap.size ≤ g from fun g hg h0 => by
        have := HTB.out g (by rw [hg]; rfl)
        exact ⟨not_after HT5.out this.2.2 this.1, this.2.1⟩)
      have HK5 := hid ((KRow.of HB4.out).keep HT5.out.mod (fun g hg ht => (HTB.out g (by rw [hg]; rfl)).1 ht))
      generalize hσ : r.1 = σ at *
      clear hσ
      clear HB4 HTB HT5 HS4 HS3
      go_wp2_with fail
      go_loopw [6] (fun vi wr => ∃ i : Nat, i ≤ l.length ∧ vi = .int .i64 i ∧ Hid (IsStore w wr T5 s p σ) ∧ Hid (KRow wr ba l i)) (fun vi _ => l.length - (intOf vi).toNat)
      case atStart => exact ⟨0, by omega, rfl, HS5.out, HK5.out⟩
      case round =>
        obtain ⟨i, hi, rfl, h1, h2⟩ := hrel
        clear HS5 HK5
        by_cases hlt : i < l.length
        · have hlt' : (i : Int) < (l.length : Int) := by omega
          obtain ⟨g, rfl, k0, k1, k2, kf⟩ := h2.out.at hlt (Nat.le_refl _)
          obtain ⟨b, o, rfl, e0, e1, e2⟩ := rd_ch (h1.out.mod.rdv HRD.out (fun _ _ h => h)) hlt
          generalize nth l i = x at *
          unfold Str at k0 k1 e0 e1
          generalize hnn : l.length = nn at *
          go_wp2_with fail
          go_quiet (fail)
          rename_i nq
          have HST2 := hid (fun u => (h1.out.step (mod_drewN wr nq)).other (Mod.set (S := fun k => k = g) (Mod.refl _ (wr.drewN nq)) (p := ⟨g, i * 3, none⟩) (.inl rfl) u) (fun k e => by subst e; exact HKB.out k rfl (by omega)))
          have HSP2 := hid ((h2.out.keep (mod_drewN wr nq) (fun _ _ e => e)).spoil (i := i) (.string { data := #[115, 112, 111, 105, 108, 116] }))
          go_wp2_with fail
          go_roundw
          case rel => exact ⟨i + 1, by omega, by go_num, HST2.out _, HSP2.out⟩
          case measure => simp [intOf]; omega
        · obtain rfl : i = l.length := by omega
          have hlt' : ¬ (l.length : Int) < (l.length : Int) := by omega
          have HS6 := hid h1.out
          have HFEW := hid (show σ.has.length ≤ 1000000 by rw [HAS.out]; have := all_len l (l := []) List.Pairwise.nil; simp at this; omega)
          have HP := hid (pairs_any HS6.out HFEW.out)
          clear h1 h2
          go_wp2_with fail
          refine HP.out.mono ?_
          rintro e w6 ⟨wa, wc, rfl, hrow⟩
          have HWAS := hid hrow
          have HS7 := hid (HS6.out.step hrow.mod)
          clear hrow HP HS6
          have HU := hid (is_under HS7.out [] HFEW.out)
          rw [under_all] at HU
          unfold Str at HU
          go_wp2_with fail
          refine HU.out.mono ?_
          rintro e w7 ⟨ua, uc, rfl, hu⟩
          have HM7 := hid hu.mod
          have HU7 := hid (URow.of hu)
          have HUN := hid (show ∀ g, ua = some ⟨g, 0, none⟩ → w6.heap.size ≤ g from fun g hg => hu.new g (by rw [hg]; rfl))
          clear hu HU
          generalize hnn : σ.has.length = nn at *
          have HNN := hid hnn
          clear hnn
          go_wp2_with fail
          go_loopw [9] (fun vi wr => ∃ i : Nat, i ≤ nn ∧ vi = .int .i64 i ∧ Hid (Mod None w6 wr) ∧ Hid (URow wr ua nn)) (fun vi _ => nn - (intOf vi).toNat)
          case atStart => exact ⟨0, by omega, rfl, HM7.out, HU7.out⟩
          case round =>
            obtain ⟨i, hi, rfl, h1, h2⟩ := hrel
            clear HU7 HM7
            by_cases hlt : i < nn
            · have hlt' : (i : Int) < (nn : Int) := by omega
              have hw1 : IntKind.i64.wrap ((i : Int) + 1) = (i : Int) + 1 := by have := HFEW.out; rw [IntKind.wrap_i64]; omega
              have hw2 : wrap64 ((i : Int) + 1) = (i : Int) + 1 := by have := HFEW.out; unfold wrap64; omega
              rcases h2.out with h0 | ⟨g, cs, rfl, hb, hcs⟩
              · omega
              obtain ⟨cv, hcell⟩ : ∃ cv, wr.cell? ⟨g, i * 3 + 1, none⟩ = some cv := ⟨_, hb.cellAt (i * 3 + 1) (by omega)⟩
              have hfr := hb.free
              have HN := hid (fun u => URow.set hb hcs (i * 3 + 1) u)
              have HMN := hid (fun u => h1.out.set (p := ⟨g, i * 3 + 1, none⟩) (.inr (HUN.out g rfl)) u)
              clear hb hcs h2
              go_wp2_with fail
              go_roundw
              case rel => exact ⟨i + 1, by omega, by go_num, HMN.out _, HN.out _⟩
              case measure => simp [intOf]; omega
            · obtain rfl : i = nn := by omega
              have hlt' : ¬ (i : Int) < (i : Int) := by omega
              have HS8 := hid (HS7.out.step h1.out)
              obtain ⟨ra, rc, re, hrw⟩ := HWAS.out.shape
              obtain ⟨rfl, rfl⟩ : wa = ra ∧ wc = rc := by injection re with e1 e2 e3; exact ⟨e1, e3⟩
              have HRW := hid (h1.out.rdv hrw (fun _ _ h => h))
              have HP2 := hid (pairs_any HS8.out (by rw [HNN.out]; exact HFEW.out))
              clear h1 h2 re hrw HS7 HWAS
              go_wp2_with fail
              refine HP2.out.mono ?_
              rintro e w8 ⟨pa, pc, rfl, hrow8⟩
              have HS9 := hid (HS8.out.step hrow8.mod)
              have HRW8 := hid (hrow8.mod.rdv HRW.out (fun _ _ h => h))
              obtain ⟨ra, rc, re, hrp⟩ := hrow8.shape
              obtain ⟨rfl, rfl⟩ : pa = ra ∧ pc = rc := by injection re with e1 e2 e3; exact ⟨e1, e3⟩
              have HE1 := hid (same_any6 w8 pa wa σ.has.length i pc wc σ.has σ.has rfl HNN.out.symm hrp HRW8.out (by rw [HNN.out]; exact HFEW.out))
              rw [decide_eq_true rfl] at HE1
              clear hrow8 re hrp HP2 HS8 HRW
              rw [HNN.out] at HE1 ⊢
              go_wp2_with fail
              refine HE1.out.mono ?_
              rintro e w9 ⟨rfl, m9, rfl⟩
              have HS10 := hid (HS9.out.step (mod_drewN w8 m9))
              have HRW10 := hid ((mod_drewN w8 m9).rdv HRW8.out (fun _ _ h => h))
              have HAL := hid (all_any (w8.drewN m9) none 0 0 [] rfl (.inl rfl) List.Pairwise.nil a l.length cap l rfl (HS10.out.mod.rdv HRD.out (fun _ _ h => h)) (by simp; omega))
              clear HE1 HS9 HRW8
              go_wp2_with fail
              refine HAL.out.mono ?_
              rintro e w11 ⟨aa, ac, rfl, hra, hma⟩
              have HS11 := hid (HS10.out.step hma)
              have HE2 := hid (same_any6 w11 wa aa i (allL [] l).length wc ac σ.has (allL [] l) HNN.out.symm rfl (hma.rdv HRW10.out (fun _ _ h => h)) hra (by rw [HNN.out]; exact HFEW.out))
              rw [decide_eq_true HAS.out] at HE2
              clear hra hma HAL HS10 HRW10
              go_wp2_with fail
              refine HE2.out.mono ?_
              rintro e w12 ⟨rfl, m12, rfl⟩
              go_wp2_with fail
              go_ret
              exact ⟨rfl, (HS11.out.mod.trans (mod_drewN w11 m12)).below _ (Nat.le_refl _) (fun _ h => h.elim)⟩
    · rw [hz]
      go_wp2_with fail
      go_ret
      exact ⟨rfl, HS5.out.mod.below _ (Nat.le_refl _) (fun _ h => h.elim)⟩
  · rw [decide_eq_false h3]
    go_wp2_with fail
    go_ret
    exact ⟨rfl, HS3.out.mod.below _ (Nat.le_refl _) (fun _ h => h.elim)⟩
end Go.Proofs.Ytdhhpnfdnoaihaa

/-! V5 -/
/- How arguments read: rows of changes, and what the bound says of them. -/
namespace Go.Proofs.Ytdhhpnfdnoaihaa
open Go.RowKit

/-- a string's bytes -/
theorem view_string {H : Type} {s : ByteArray} (h : Small (H := H) 9 (.lit (.string s.data.toList))) : s.size ≤ 140737488351232 := by
  have h1 := h s.data.toList.length (by simp [DataW.weights])
  have h2 : reachBytes = 140737488351232 := by decide
  have h3 : s.data.toList.length = s.size := Array.length_toList
  omega
theorem bulk_one {H : Type} (d : DataW H) : 1 ≤ Rows.uptoBulk d := by
  cases d with
  | lit l => cases l <;> simp [Rows.uptoBulk]
  | nil => simp [Rows.uptoBulk]
  | ptr d => simp [Rows.uptoBulk]
  | slice elems spare => simp [Rows.uptoBulk]
  | agg parts => simp [Rows.uptoBulk]
  | iface t d => simp [Rows.uptoBulk]
  | map entries => simp [Rows.uptoBulk]
  | held h => simp [Rows.uptoBulk]
theorem bulk_part {H : Type} {d : DataW H} {l : List (DataW H)} (h : d ∈ l) : Rows.uptoBulk d ≤ Rows.uptoBulkAll l := by
  induction l with
  | nil => cases h
  | cons x r ih =>
    simp only [Rows.uptoBulkAll]
    cases List.mem_cons.1 h with
    | inl e => subst e; omega
    | inr e => have := ih e; omega
theorem bulk_bound {H : Type} {l : List (DataW H)} (hk : Rows.uptoSmall H l = true) : Rows.uptoBulkAll l ≤ 1048576 := of_decide_eq_true hk
theorem v_und9 : Try.prog.underlying 9 = some .string := by kernel_rfl
theorem v_und73 : Try.prog.underlying 73 = some (.slice 86) := by kernel_rfl
theorem v_und86 : Try.prog.underlying 86 = some (.struct (Try.prog.fieldsOf 86)) := by kernel_rfl
theorem v_f86 : (Try.prog.fieldsOf 86).toList.map (fun f => (f.type, f.offset)) = [(9, 0), (9, 1), (4, 2)] := by kernel_rfl
theorem v_cells86 : Try.prog.cellsOf 86 = 3 := by kernel_rfl
theorem v_cells9 : Try.prog.cellsOf 9 = 1 := by kernel_rfl
section
variable {H : Type} {enc : TypeId × Value → H} {w : World}
theorem str_of (s : ByteArray) : Value.string s = Str s.data.toList := rfl
set_option maxRecDepth 100000 in
theorem trod_change (n : Nat) (cs : List Value) (d : DataW H) (ps : List MemPlace) (h : Rdg enc w n 86 cs = some (d, ps)) : ∃ x : Ch, cs = chC x ∧ wtC x ≤ 5 * Rows.uptoBulk d := by
  obtain ⟨xs, m, _, hx, hl, hsz, hf⟩ := DataW.trod_struct v_und86 h
  rw [v_cells86] at hl
  obtain ⟨f0, e0, t0, o0⟩ := field_of v_f86 0 rfl
  obtain ⟨f1, e1, t1, o1⟩ := field_of v_f86 1 rfl
  obtain ⟨f2, e2, t2, o2⟩ := field_of v_f86 2 rfl
  have hs3 : xs.length = 3 := by
    have := congrArg List.length v_f86
    rw [hsz]; simpa using this
  match xs, hs3, cs, hl with
  | [x0, x1, x2], _, [c0, c1, c2], _ =>
    have g0 := hf 0 f0 (by simpa using e0)
    have g1 := hf 1 f1 (by simpa using e1)
    have g2 := hf 2 f2 (by simpa using e2)
    rw [t0, o0, v_cells9] at g0
    rw [t1, o1, v_cells9] at g1
    rw [t2, o2, v_cells4] at g2
    simp at g0 g1 g2
    obtain ⟨s0, h0, d0, _⟩ := DataW.trod_string v_und9 g0
    obtain ⟨s1, h1, d1, _⟩ := DataW.trod_string v_und9 g1
    obtain ⟨b2, h2, d2⟩ := DataW.trod_bool v_und4 g2
    have hd : d = .agg [x0.1, x1.1, x2.1] := by
      simp at hx; exact hx.1
    refine ⟨⟨s0.data.toList, s1.data.toList, b2⟩, ?_, ?_⟩
    · simp at h0 h1 h2
      rw [h0, h1, h2]
      rfl
    · rw [hd, d0, d1, d2]
      simp only [Rows.uptoBulk, Rows.uptoBulkAll, wtC]
      omega
theorem sum_bulk {f : Nat → Ch} {D : Nat → DataW H} : ∀ (is : List Nat), (∀ i ∈ is, wtC (f i) ≤ 5 * Rows.uptoBulk (D i)) → sumC (is.map f) ≤ 5 * Rows.uptoBulkAll (is.map D)
  | [], _ => by simp [sumC]
  | i :: is, h => by
    have h1 := h i (by simp)
    have h2 := sum_bulk is (fun j hj => h j (by simp [hj]))
    rw [List.map_cons, List.map_cons, sumC_cons, Rows.uptoBulkAll]
    omega
theorem nth_map {f : Nat → Ch} {len i : Nat} (h : i < len) : nth ((List.range len).map f) i = f i := by
  unfold nth
  rw [List.getD_eq_getElem?_getD, List.getElem?_map, List.getElem?_range h]; rfl
theorem view_chw {n : Nat} {v : Value} {d : DataW H} {ps : List MemPlace} (h : Rdg enc w n 73 v.cells.toList = some (d, ps)) (hk : Rows.uptoBulk d ≤ 1048576) (hv : ∃ a l c, v = .slice a l c) : ∃ l, VChs w v l ∧ wtL l ≤ 6000000 := by
  obtain ⟨a, len, cap, rfl⟩ := hv
  rcases Deep.open_slice v_und73 h with ⟨hcs, _⟩ | ⟨a', l', c', m, n', D, Pl, hcs, _, hl, hm, hmm, hx, hel⟩
  · simp [Value.cells] at hcs
    obtain ⟨rfl, rfl, rfl⟩ := hcs
    exact ⟨[], ⟨none, 0, rfl, .inl rfl, by decide⟩, by decide⟩
  · simp [Value.cells] at hcs
    obtain ⟨rfl, rfl, rfl⟩ := hcs
    simp only [if_true] at hmm
    subst hmm
    simp only [Prod.mk.injEq] at hx
    obtain ⟨rfl, _⟩ := hx
    have hall : ∀ i, i < len → ∃ x : Ch, wtC x ≤ 5 * Rows.uptoBulk (D i) ∧ ∀ j, j < 3 → w.cell? (a'.add (i * 3 + j)) = (chC x)[j]? := by
      intro i hi
      obtain ⟨cs', h1, h2⟩ := hel i (by omega)
      rw [v_cells86] at h1
      obtain ⟨_, _, hcell⟩ := World.cells?_some h1
      obtain ⟨x, rfl, hx⟩ := trod_change _ _ _ _ h2
      exact ⟨x, hx, fun j hj => by rw [← hcell j hj, Deep.add_add]⟩
    obtain ⟨f, hf⟩ := Deep.choose_lt hall
    have hsum := sum_bulk (f := f) (D := D) (List.range len) (fun i hi => (hf i (by simpa using hi)).1)
    have hwt : wtL ((List.range len).map f) ≤ 6000000 := by
      rw [wtL_sum]
      have : Rows.uptoBulkAll ((List.range len).map D) + 1 ≤ Rows.uptoBulk (DataW.slice ((List.range len).map D) ((List.range (m - len)).map fun j => D (len + j))) := by
        simp only [Rows.uptoBulk]; omega
      omega
    refine ⟨(List.range len).map f, ⟨some a', m, by simp, ?_, by omega⟩, hwt⟩
    · by_cases h0 : len = 0
      · left; simp [h0, rowC]
      · obtain ⟨b, o, sp⟩ := a'
        have hsp : sp = none := by
          have := (hf 0 (by omega)).2 0 (by omega)
          have h1 : (chC (f 0))[0]? = some (Str (f 0).key) := rfl
          rw [Nat.zero_mul, Nat.add_zero, h1] at this
          have := World.cell?_spot this
          simpa [Addr.add] using this
        subst hsp
        refine .inr ⟨b, o, rfl, fun t ht => ?_⟩
        rw [rowC_length, List.length_map, List.length_range] at ht
        have hi : t / 3 < len := by omega
        have hc := (hf (t / 3) hi).2 (t % 3) (Nat.mod_lt _ (by omega))
        rw [add_mk, show t / 3 * 3 + t % 3 = t by omega] at hc
        rw [hc]
        obtain ⟨k0, k1, k2⟩ := rowC_at ((List.range len).map f) (t / 3) (by simpa using hi)
        rw [nth_map hi] at k0 k1 k2
        rcases (show t % 3 = 0 ∨ t % 3 = 1 ∨ t % 3 = 2 by omega) with h3 | h3 | h3
        · rw [h3]
          rw [show t / 3 * 3 = t by omega] at k0
          rw [k0]; rfl
        · rw [h3]
          rw [show t / 3 * 3 + 1 = t by omega] at k1
          rw [k1]; rfl
        · rw [h3]
          rw [show t / 3 * 3 + 2 = t by omega] at k2
          rw [k2]; rfl
theorem view_chs {n : Nat} {v : Value} {d : DataW H} {ps : List MemPlace} (h : Rdg enc w n 73 v.cells.toList = some (d, ps)) (hk : Rows.uptoBulk d ≤ 1048576) (hv : ∃ a l c, v = .slice a l c) : ∃ l, VChs w v l := by
  obtain ⟨l, h, _⟩ := view_chw h hk hv; exact ⟨l, h⟩
end
end Go.Proofs.Ytdhhpnfdnoaihaa

/-! J10 -/
/- A journal's Append, down or not. -/
namespace Go.Proofs.Ytdhhpnfdnoaihaa
open Go.RowKit

theorem append_down {st : DSt} (h : st.down = true) (fr en : Nat) (b : List UInt8) : st.append fr en b = (st, 32) := by
  have hw : ∀ (i : Int) (d : List UInt8), st.write i d = (st, 32) := fun i d => by unfold DSt.write DSt.may; rw [h]; rfl
  have hne : jall st fr en b ≠ [] := fun e => by
    have := congrArg List.length e
    unfold jall at this
    rw [List.length_append, frameL_len] at this
    simp at this
  have hr : wrs ((jall st fr en b).length + 1) st (fr + en / 64) (jall st fr en b) = (st, 32) := by
    unfold wrs
    rw [if_neg hne, hw, if_neg (show ¬ (32 : Int) = 0 by decide)]
  unfold DSt.append
  rw [hr]; rfl
theorem lread_none {w0 w : World} {S : Nat → Prop} {p : Nat} {st : DSt} {i n : Int} (h : Calls Try.prog 33 #[.pointer (some ⟨p, 0, none⟩), .int .i64 i] w (LRead w0 w S p st ([], n))) :
    Calls Try.prog 33 #[.pointer (some ⟨p, 0, none⟩), .int .i64 i] w fun e w' => ∃ a, e = .returned (.tuple #[.slice a 0 0, .int .i64 n]) ∧ Mod None w w' :=
  h.mono fun e w' ⟨a, he, ht, _, _, hm⟩ => ⟨a, by rw [he]; rfl, hm⟩
set_option maxRecDepth 100000 in
set_option maxHeartbeats 1500000 in
theorem append_any (w0 w : World) (S : Nat → Prop) (p j : Nat) (st : DSt) (h : Live w0 w S p st) (fr to en ct : Nat) (hj : IsJ w j p fr to en ct) (hjS : ¬ S j) (hj0 : w0.heap.size ≤ j) (a : Option Addr) (c : Nat) (b : List UInt8) (hr : Rd w a b) 
    (hf : fr ≤ to ∧ to ≤ st.last.length) (hl : b.length ≤ 1048576) (hroom : en + b.length + 16 ≤ (to - fr) * 64) (hen : en ≤ 4194304) (hctb : ct ≤ 100000000) (hws : st.waits.length ≤ 2990000000000) :
    Calls Try.prog 47 #[.pointer (some ⟨j, 0, none⟩), .slice a b.length c] w (APost w0 w S p j fr to en ct b.length (st.append fr en b)) := by
  have HLT := hid h.lt
  have HNW := hid h.2.2
  have HW0 := hid h.2.1.size
  have HJL := hid hj.lt
  have hok := h.ok
  have hmost := hok.most
  have hlen : ¬ (1048576 : Int) < (b.length : Int) := by omega
  have hfi : (0 : Int) ≤ fr ∧ (fr : Int) ≤ to ∧ (to : Int) ≤ 65536 := by omega
  have hlt : ¬ ((to : Int) - fr) * 64 - en < (b.length : Int) + 16 := by omega
  have hw1 : IntKind.i64.wrap (((to : Int) - fr) * 64 - en) = ((to : Int) - fr) * 64 - en := wrap_in _ (by omega)
  have hm0 : Mod None w ((w.alloc (.cells #[.pointer (some ⟨j, 0, none⟩)] 62)).alloc (.cells #[.int .i64 0] 40)) := ((Mod.refl _ _).alloc _).alloc _
  obtain ⟨W, hW⟩ : ∃ W, W = (w.alloc (.cells #[.pointer (some ⟨j, 0, none⟩)] 62)).alloc (.cells #[.int .i64 0] 40) := ⟨_, rfl⟩
  rw [← hW] at hm0
  have hjw : IsJ W j p fr to en ct := hm0.blk hj (fun h => h)
  obtain ⟨_, _, _, h3, _⟩ := hjw.cells
  have hbx : Blk W w.heap.size 62 [.pointer (some ⟨j, 0, none⟩)] := by rw [hW]; exact (Blk.new w 62 _).alloc _
  have hrb : Blk W (w.heap.size + 1) 40 [.int .i64 0] := by
    have := Blk.new (w.alloc (.cells #[.pointer (some ⟨j, 0, none⟩)] 62)) 40 #[.int .i64 0]
    simp only [World.size_alloc] at this
    rw [hW]; exact this
  have hbx0 : W.cell? ⟨w.heap.size, 0, none⟩ = some (.pointer (some ⟨j, 0, none⟩)) := hbx.is rfl
  have HWS := hid (show W.heap.size = w.heap.size + 2 by rw [hW]; simp)
  have HM := hid hm0
  have HBX := hid hbx
  have HRB := hid hrb
  have HJ := hid hjw
  have HLV := hid (h.step hm0)
  have HR := hid (hm0.rd hr (fun _ _ h => h))
  have HQ := hid (fun m => room_quiet hjw hfi m)
  have HX := hid (And.intro hf (And.intro hroom (And.intro hws hmost)))
  generalize hRR : ((to : Int) - fr) * 64 = R at *
  clear hRR hfi hf hroom hbx hrb hjw hj hm0 hr h hws
  refine (callsIn_wide (n := 5)).1 (callsIn_of_wp_marks Try.func47 rfl trivial (wpIn_wide.2 ?_))
  simp only [Try.ntmps47, List.size_toArray, List.length_cons, List.length_nil, Nat.reduceAdd, Nat.reduceSub, Array.replicate_succ, Array.replicate_zero, List.push_toArray, List.append_toArray, List.nil_append, List.cons_append]
  go_wp2_with fail
  rw [← hW]
  clear hW
  go_quiet (first | (go_at_call 74; exact HQ.out _))
  clear hw1 HQ
  rename_i nq
  go_wp2_with fail
  refine (frame_any (W.drewN nq) a c b HR.out hl).mono ?_
  rintro e W1 ⟨fa, fc, rfl, hfo, hfm⟩
  have HFO := hid hfo
  have HFM := hid ((mod_drewN W nq).trans hfm)
  have hbx1 : W1.cell? ⟨w.heap.size, 0, none⟩ = some (.pointer (some ⟨j, 0, none⟩)) := (HFM.out.blk HBX.out (fun h => h)).is rfl
  have hen1 : W1.cell? ⟨j, 3, none⟩ = some (.int .i64 (en : Int)) := Blk.is (HFM.out.blk HJ.out (fun h => h)) rfl
  rw [frameL_len] at *
  have HFL := hid (frameL_len b)
  clear hfo hfm h3 hbx0
  generalize hbl : b.length = bl at *
  go_upto_if 51 with (fail)
  have HC0 := hid (cut_of HFO.out (by rw [HFL.out]; omega) HFM.out)
  clear HFO
  have HRNG := hid (show fr + en / 64 < st.last.length by have := HX.out; omega)
  obtain ⟨pt, hpt⟩ : ∃ pt : Nat, (en : Int) - (en : Int) / 64 * 64 = (pt : Int) := ⟨en % 64, by omega⟩
  have HPT := hid (show pt = en % 64 by omega)
  rw [hpt]
  clear hpt
  obtain ⟨ix, hix⟩ : ∃ ix : Nat, (en : Int) / 64 = (ix : Int) := ⟨en / 64, by omega⟩
  have HIX := hid (show ix = en / 64 by omega)
  rw [hix]
  have hix2 : (ix : Int) * 64 / 64 = (ix : Int) := by omega
  have hixb : ix ≤ 65536 := by omega
  clear hix
  go_cut [6, 9, 10] from 50 (fun f o e wc => ∃ fa fc, f = .slice fa (jall st fr en b).length fc ∧ Hid (cutRel W wc fa fc (jall st fr en b)))
  case first =>
    by_cases hp : 0 < pt
    · have hp1 : (ix : Int) * 64 < (en : Int) := by have := HPT.out; have := HIX.out; omega
      have hj0 : W1.cell? ⟨j, 0, none⟩ = some (.pointer (some ⟨p, 0, none⟩)) := Blk.is (HFM.out.blk HJ.out (fun h => h)) rfl
      have hj1 : W1.cell? ⟨j, 1, none⟩ = some (.int .i64 (fr : Int)) := Blk.is (HFM.out.blk HJ.out (fun h => h)) rfl
      have HLR := hid (live_read (HLV.out.step (HFM.out.trans (Mod.refl None W1).drew)) ((fr : Int) + (ix : Int)))
      cases hdn : st.down
      case false =>
        have hst : st.read ((fr : Int) + (ix : Int)) = (readTo st.waits (fr + ix) (st.last.getD (fr + ix) []), 0) := by
          have hlt := HRNG.out
          rw [← HIX.out] at hlt
          unfold DSt.read DSt.may
          rw [hdn]
          have h1 : ¬ ((fr : Int) + (ix : Int) < 0 ∨ (st.last.length : Int) ≤ (fr : Int) + (ix : Int)) := by omega
          have h2 : ((fr : Int) + (ix : Int)).toNat = fr + ix := by omega
          simp [h1, h2]
        have hol : (readTo st.waits (fr + ix) (st.last.getD (fr + ix) [])).length = 64 := read_len hok (by have := HRNG.out; rw [← HIX.out] at this; exact this)
        have HJA := hid (show jall st fr en b = (readTo st.waits (fr + ix) (st.last.getD (fr + ix) [])).take pt ++ frameL b by
          unfold jall jpart
          rw [← HPT.out, ← HIX.out, if_pos hp, show ((fr + ix : Nat) : Int) = (fr : Int) + (ix : Int) by omega, hst])
        rw [hst] at HLR
        have HLR := hid (lread_old (HLR.out) hol)
        clear hst
        generalize readTo st.waits (fr + ix) (st.last.getD (fr + ix) []) = old at *
        have HOL := hid hol
        have hpt64 : pt ≤ 64 := by have := HPT.out; omega
        have hwi1 : IntKind.i64.wrap (ix : Int) = ix := wrap_in _ (by omega)
        have hwi2 : IntKind.i64.wrap ((fr : Int) + (ix : Int)) = (fr : Int) + (ix : Int) := wrap_in _ (by have := HRNG.out; omega)
        go_wp2_with fail
        refine wp_region_noPanic ?_
        refine wp_region_held_drew (S := fun w' => w'.cell? ⟨w.heap.size, 0, none⟩ = some (.pointer (some ⟨j, 0, none⟩)) ∧ w'.cell? ⟨j, 0, none⟩ = some (.pointer (some ⟨p, 0, none⟩)) ∧ w'.cell? ⟨j, 1, none⟩ = some (.int .i64 (fr : Int))) (by kernel_rfl) ?_ (fun hHeld => ?_)
        · first | exact ⟨k1, k2, k3⟩ | exact ⟨hbx1, hj0, hj1⟩
        refine wpAnyH_take (i := 0) (oi := { dst := some 53, op := Op.load 62 (Operand.tmp 2), type := 62, pos := "journal.go:103", after := #[], guard := none }) (v := ?vo1_0) rfl (by kernel_rfl) (by kernel_rfl) (by kernel_rfl) (fun _ _ _ h => h) (Or.inl ⟨by rfl, ?yo1_0⟩) (by assumption) ?ro1_0
        case yo1_0 => (intro w hSw; (try dsimp only at hSw); go_simp; (try with_reducible rfl))
        try simp only [Act.put, List.setIfInBounds_toArray, List.set_cons_zero, List.set_cons_succ]
        refine wpAnyH_take (i := 1) (oi := { dst := some 54, op := Op.nilCheck (Operand.tmp 53), type := 0, pos := "journal.go:103", after := #[{ on := 0, ground := Ground.data }], guard := none }) (v := ?vo2_1) rfl (by kernel_rfl) (by kernel_rfl) (by kernel_rfl) (fun _ _ _ h => h) (Or.inl ⟨by rfl, ?yo2_1⟩) (by assumption) ?ro2_1
        case yo2_1 => (intro w hSw; (try dsimp only at hSw); go_simp; (try with_reducible rfl))
        try simp only [Act.put, List.setIfInBounds_toArray, List.set_cons_zero, List.set_cons_succ]
        refine wpAnyH_take (i := 2) (oi := { dst := some 55, op := Op.fieldAddr 118 (Operand.tmp 54) 0, type := 0, pos := "journal.go:103", after := #[{ on := 1, ground := Ground.data }], guard := none }) (v := ?vo3_2) rfl (by kernel_rfl) (by kernel_rfl) (by kernel_rfl) (fun _ _ _ h => h) (Or.inl ⟨by rfl, ?yo3_2⟩) (by assumption) ?ro3_2
        case yo3_2 => (intro w hSw; (try dsimp only at hSw); go_simp; (try with_reducible rfl))
        try simp only [Act.put, List.setIfInBounds_toArray, List.set_cons_zero, List.set_cons_succ]
        refine wpAnyH_take (i := 3) (oi := { dst := some 56, op := Op.load 37 (Operand.tmp 55), type := 37, pos := "journal.go:103", after := #[{ on := 2, ground := Ground.data }], guard := none }) (v := ?vo4_3) rfl (by kernel_rfl) (by kernel_rfl) (by kernel_rfl) (fun _ _ _ h => h) (Or.inl ⟨by rfl, ?yo4_3⟩) (by assumption) ?ro4_3
        case yo4_3 => (intro w hSw; (try dsimp only at hSw); go_simp; (try with_reducible rfl))
        try simp only [Act.put, List.setIfInBounds_toArray, List.set_cons_zero, List.set_cons_succ]
        refine wpAnyH_take (i := 4) (oi := { dst := some 57, op := Op.load 62 (Operand.tmp 2), type := 62, pos := "journal.go:103", after := #[], guard := none }) (v := ?vo5_4) rfl (by kernel_rfl) (by kernel_rfl) (by kernel_rfl) (fun _ _ _ h => h) (Or.inl ⟨by rfl, ?yo5_4⟩) (by assumption) ?ro5_4
        case yo5_4 => (intro w hSw; (try dsimp only at hSw); go_simp; (try with_reducible rfl))
        try simp only [Act.put, List.setIfInBounds_toArray, List.set_cons_zero, List.set_cons_succ]
        refine wpAnyH_take (i := 5) (oi := { dst := some 58, op := Op.nilCheck (Operand.tmp 57), type := 0, pos := "journal.go:103", after := #[{ on := 4, ground := Ground.data }], guard := none }) (v := ?vo6_5) rfl (by kernel_rfl) (by kernel_rfl) (by kernel_rfl) (fun _ _ _ h => h) (Or.inl ⟨by rfl, ?yo6_5⟩) (by assumption) ?ro6_5
        case yo6_5 => (intro w hSw; (try dsimp only at hSw); go_simp; (try with_reducible rfl))
        try simp only [Act.put, List.setIfInBounds_toArray, List.set_cons_zero, List.set_cons_succ]
        refine wpAnyH_take (i := 6) (oi := { dst := some 59, op := Op.fieldAddr 118 (Operand.tmp 58) 1, type := 0, pos := "journal.go:103", after := #[{ on := 5, ground := Ground.data }], guard := none }) (v := ?vo7_6) rfl (by kernel_rfl) (by kernel_rfl) (by kernel_rfl) (fun _ _ _ h => h) (Or.inl ⟨by rfl, ?yo7_6⟩) (by assumption) ?ro7_6
        case yo7_6 => (intro w hSw; (try dsimp only at hSw); go_simp; (try with_reducible rfl))
        try simp only [Act.put, List.setIfInBounds_toArray, List.set_cons_zero, List.set_cons_succ]
        refine wpAnyH_take (i := 7) (oi := { dst := some 60, op := Op.load 3 (Operand.tmp 59), type := 3, pos := "journal.go:103", after := #[{ on := 6, ground := Ground.data }], guard := none }) (v := ?vo8_7) rfl (by kernel_rfl) (by kernel_rfl) (by kernel_rfl) (fun _ _ _ h => h) (Or.inl ⟨by rfl, ?yo8_7⟩) (by assumption) ?ro8_7
        case yo8_7 => (intro w hSw; (try dsimp only at hSw); go_simp; (try with_reducible rfl))
        try simp only [Act.put, List.setIfInBounds_toArray, List.set_cons_zero, List.set_cons_succ]
        refine wpAnyH_take (i := 8) (oi := { dst := some 61, op := Op.move (Operand.tmp 5), type := 2, pos := "journal.go:103", after := #[], guard := none }) (v := ?vo9_8) rfl (by kernel_rfl) (by kernel_rfl) (by kernel_rfl) (fun _ _ _ h => h) (Or.inl ⟨by rfl, ?yo9_8⟩) (by assumption) ?ro9_8
        case yo9_8 => (intro w hSw; (try dsimp only at hSw); go_simp; (try with_reducible rfl))
        try simp only [Act.put, List.setIfInBounds_toArray, List.set_cons_zero, List.set_cons_succ]
        refine wpAnyH_take (i := 9) (oi := { dst := some 62, op := Op.binOp BinOp.quo 2 (Operand.tmp 61) (Operand.const (Value.int IntKind.i64 64)) 2, type := 2, pos := "journal.go:103", after := #[{ on := 8, ground := Ground.data }], guard := none }) (v := ?vo10_9) rfl (by kernel_rfl) (by kernel_rfl) (by kernel_rfl) (fun _ _ _ h => h) (Or.inl ⟨by rfl, ?yo10_9⟩) (by assumption) ?ro10_9
        case yo10_9 => (intro w hSw; (try dsimp only at hSw); go_simp; (try with_reducible rfl))
        try simp only [Act.put, List.setIfInBounds_toArray, List.set_cons_zero, List.set_cons_succ]
        refine wpAnyH_take (i := 10) (oi := { dst := some 63, op := Op.binOp BinOp.add 3 (Operand.tmp 60) (Operand.tmp 62) 3, type := 3, pos := "journal.go:103", after := #[{ on := 7, ground := Ground.data }, { on := 9, ground := Ground.data }], guard := none }) (v := ?vo11_10) rfl (by kernel_rfl) (by kernel_rfl) (by kernel_rfl) (fun _ _ _ h => h) (Or.inl ⟨by rfl, ?yo11_10⟩) (by assumption) ?ro11_10
        case yo11_10 => (intro w hSw; (try dsimp only at hSw); go_simp; (try with_reducible rfl))
        try simp only [Act.put, List.setIfInBounds_toArray, List.set_cons_zero, List.set_cons_succ]
        refine wpAnyH_ready (rs := [11]) (by kernel_rfl) (by simp) ?_
        refine AllReadyH.cons (o := { dst := some 64, op := Op.call { callee := Callee.value (Operand.func 33), args := #[Operand.tmp 56, Operand.tmp 63], argTypes := #[37, 3] }, type := 48, pos := "journal.go:103", after := #[{ on := 3, ground := Ground.data }, { on := 10, ground := Ground.data }], guard := none }) rfl (fun K hK => ?_) AllReadyH.nil
        go_simp; refine HLR.out.mono ?_; rintro e W2 ⟨oa, rfl, hro, hm2⟩; have k1 := (hm2.cell (p := ⟨w.heap.size, 0, none⟩) (World.block_lt_of_cell? W1 _ hbx1) (fun h => h)).trans hbx1; have k2 := (hm2.cell (p := ⟨j, 0, none⟩) (World.block_lt_of_cell? W1 _ hj0) (fun h => h)).trans hj0; have k3 := (hm2.cell (p := ⟨j, 1, none⟩) (World.block_lt_of_cell? W1 _ hj1) (fun h => h)).trans hj1; have HRO := hid hro; have HM2 := hid ((Mod.refl None W1).drew.trans hm2); clear hro hm2; go_wp2_with fail
        refine hK.out _ _ ?_ (fun hHeld => ?_)
        · first | exact ⟨k1, k2, k3⟩ | exact ⟨hbx1, hj0, hj1⟩
        clear hK K
        try simp only [Act.put, List.setIfInBounds_toArray, List.set_cons_zero, List.set_cons_succ]
        refine wpAnyH_take (i := 12) (oi := { dst := some 52, op := Op.move (Operand.tmp 64), type := 48, pos := "journal.go:103", after := #[{ on := 11, ground := Ground.data }], guard := none }) (v := ?vo12_12) rfl (by kernel_rfl) (by kernel_rfl) (by kernel_rfl) (fun _ _ _ h => h) (Or.inl ⟨by rfl, ?yo12_12⟩) (by assumption) ?ro12_12
        case yo12_12 => (intro w hSw; (try dsimp only at hSw); go_simp; (try with_reducible rfl))
        try simp only [Act.put, List.setIfInBounds_toArray, List.set_cons_zero, List.set_cons_succ]
        refine wpAnyH_take (i := 13) (oi := { dst := some 65, op := Op.extract (Operand.tmp 52) 0, type := 27, pos := "journal.go:103", after := #[{ on := 12, ground := Ground.data }], guard := none }) (v := ?vo13_13) rfl (by kernel_rfl) (by kernel_rfl) (by kernel_rfl) (fun _ _ _ h => h) (Or.inl ⟨by rfl, ?yo13_13⟩) (by assumption) ?ro13_13
        case yo13_13 => (intro w hSw; (try dsimp only at hSw); go_simp; (try with_reducible rfl))
        try simp only [Act.put, List.setIfInBounds_toArray, List.set_cons_zero, List.set_cons_succ]
        refine wpAnyH_take (i := 14) (oi := { dst := some 66, op := Op.extract (Operand.tmp 52) 1, type := 40, pos := "journal.go:103", after := #[{ on := 12, ground := Ground.data }, { on := 15, ground := Ground.gcOnly Departure.lateStores }], guard := none }) (v := ?vo14_14) rfl (by kernel_rfl) (by kernel_rfl) (by kernel_rfl) (fun _ _ _ h => h) (Or.inl ⟨by rfl, ?yo14_14⟩) (by assumption) ?ro14_14
        case yo14_14 => (intro w hSw; (try dsimp only at hSw); go_simp; (try with_reducible rfl))
        try simp only [Act.put, List.setIfInBounds_toArray, List.set_cons_zero, List.set_cons_succ]
        refine wpAnyH_take (i := 15) (oi := { dst := some 9, op := Op.assign (Operand.tmp 65), type := 27, pos := "journal.go:103", after := #[{ on := 13, ground := Ground.data }, { on := 11, ground := Ground.chain }, { on := 0, ground := Ground.phase }, { on := 1, ground := Ground.phase }, { on := 2, ground := Ground.phase }, { on := 3, ground := Ground.phase }, { on := 4, ground := Ground.phase }, { on := 5, ground := Ground.phase }, { on := 6, ground := Ground.phase }, { on := 7, ground := Ground.phase }, { on := 8, ground := Ground.phase }, { on := 9, ground := Ground.phase }, { on := 10, ground := Ground.phase }, { on := 11, ground := Ground.phase }, { on := 12, ground := Ground.phase }, { on := 13, ground := Ground.phase }, { on := 14, ground := Ground.textOnly Departure.lateStores }], guard := none }) (v := ?vo15_15) rfl (by kernel_rfl) (by kernel_rfl) (by kernel_rfl) (fun _ _ _ h => h) (Or.inl ⟨by rfl, ?yo15_15⟩) (by assumption) ?ro15_15
        case yo15_15 => (intro w hSw; (try dsimp only at hSw); go_simp; (try with_reducible rfl))
        try simp only [Act.put, List.setIfInBounds_toArray, List.set_cons_zero, List.set_cons_succ]
        refine wpAnyH_take (i := 16) (oi := { dst := some 10, op := Op.assign (Operand.tmp 66), type := 40, pos := "journal.go:103", after := #[{ on := 14, ground := Ground.data }, { on := 15, ground := Ground.chain }, { on := 0, ground := Ground.phase }, { on := 1, ground := Ground.phase }, { on := 2, ground := Ground.phase }, { on := 3, ground := Ground.phase }, { on := 4, ground := Ground.phase }, { on := 5, ground := Ground.phase }, { on := 6, ground := Ground.phase }, { on := 7, ground := Ground.phase }, { on := 8, ground := Ground.phase }, { on := 9, ground := Ground.phase }, { on := 10, ground := Ground.phase }, { on := 11, ground := Ground.phase }, { on := 12, ground := Ground.phase }, { on := 13, ground := Ground.phase }, { on := 14, ground := Ground.phase }, { on := 15, ground := Ground.phase }], guard := none }) (v := ?vo16_16) rfl (by kernel_rfl) (by kernel_rfl) (by kernel_rfl) (fun _ _ _ h => h) (Or.inl ⟨by rfl, ?yo16_16⟩) (by assumption) ?ro16_16
        case yo16_16 => (intro w hSw; (try dsimp only at hSw); go_simp; (try with_reducible rfl))
        try simp only [Act.put, List.setIfInBounds_toArray, List.set_cons_zero, List.set_cons_succ]
        refine wpAnyH_done (by kernel_rfl) ?_ _
        refine NoPanic.normal ?_
        clear k2 k3 hj0 hj1 HLR
        have HP := hid (parts2 W2 _ (.slice oa pt 64) (.slice fa (bl + 16) fc) rfl (old.take pt) (frameL b) ⟨oa, 64, by rw [List.length_take, HOL.out, Nat.min_eq_left hpt64], rd_take HRO.out pt, by rw [List.length_take, HOL.out]; omega⟩ ⟨fa, fc, by rw [HFL.out], cut_rd HC0.out HM2.out, by rw [HFL.out]; omega⟩ _ rfl)
        go_wp2_with fail
        refine (concat_any _ _ 2 [old.take pt, frameL b] HP.out (by simp) (by simp [HFL.out]; omega) (by simp [HFL.out, HOL.out]; omega)).mono ?_
        rintro e W3 ⟨ga, gc, rfl, ho, hm3⟩
        have hfl2 : [old.take pt, frameL b].flatten = jall st fr en b := by rw [HJA.out]; simp
        rw [hfl2] at ho ⊢
        have HO := hid (cut_back HC0.out HM2.out ho hm3 (by rw [HJA.out, List.length_append, HFL.out]; omega))
        clear ho hm3 hfl2 HP
        go_wp2_with fail
        go_meet
        case rel => exact ⟨ga, gc, rfl, HO.out⟩
      case true =>
        have hst : st.read ((fr : Int) + (ix : Int)) = ([], 32) := by unfold DSt.read DSt.may; rw [hdn]; rfl
        rw [hst] at HLR
        have HLR := hid (lread_none HLR.out)
        have HST := hid (append_down hdn fr en b)
        clear hst
        have hwi1 : IntKind.i64.wrap (ix : Int) = ix := wrap_in _ (by omega)
        have hwi2 : IntKind.i64.wrap ((fr : Int) + (ix : Int)) = (fr : Int) + (ix : Int) := wrap_in _ (by have := HRNG.out; omega)
        go_wp2_with fail
        refine wp_region_noPanic ?_
        refine wp_region_held_drew (S := fun w' => w'.cell? ⟨w.heap.size, 0, none⟩ = some (.pointer (some ⟨j, 0, none⟩)) ∧ w'.cell? ⟨j, 0, none⟩ = some (.pointer (some ⟨p, 0, none⟩)) ∧ w'.cell? ⟨j, 1, none⟩ = some (.int .i64 (fr : Int))) (by kernel_rfl) ?_ (fun hHeld => ?_)
        · first | exact ⟨k1, k2, k3⟩ | exact ⟨hbx1, hj0, hj1⟩
        refine wpAnyH_take (i := 0) (oi := { dst := some 53, op := Op.load 62 (Operand.tmp 2), type := 62, pos := "journal.go:103", after := #[], guard := none }) (v := ?vq1_0) rfl (by kernel_rfl) (by kernel_rfl) (by kernel_rfl) (fun _ _ _ h => h) (Or.inl ⟨by rfl, ?yq1_0⟩) (by assumption) ?rq1_0
        case yq1_0 => (intro w hSw; (try dsimp only at hSw); go_simp; (try with_reducible rfl))
        try simp only [Act.put, List.setIfInBounds_toArray, List.set_cons_zero, List.set_cons_succ]
        refine wpAnyH_take (i := 1) (oi := { dst := some 54, op := Op.nilCheck (Operand.tmp 53), type := 0, pos := "journal.go:103", after := #[{ on := 0, ground := Ground.data }], guard := none }) (v := ?vq2_1) rfl (by kernel_rfl) (by kernel_rfl) (by kernel_rfl) (fun _ _ _ h => h) (Or.inl ⟨by rfl, ?yq2_1⟩) (by assumption) ?rq2_1
        case yq2_1 => (intro w hSw; (try dsimp only at hSw); go_simp; (try with_reducible rfl))
        try simp only [Act.put, List.setIfInBounds_toArray, List.set_cons_zero, List.set_cons_succ]
        refine wpAnyH_take (i := 2) (oi := { dst := some 55, op := Op.fieldAddr 118 (Operand.tmp 54) 0, type := 0, pos := "journal.go:103", after := #[{ on := 1, ground := Ground.data }], guard := none }) (v := ?vq3_2) rfl (by kernel_rfl) (by kernel_rfl) (by kernel_rfl) (fun _ _ _ h => h) (Or.inl ⟨by rfl, ?yq3_2⟩) (by assumption) ?rq3_2
        case yq3_2 => (intro w hSw; (try dsimp only at hSw); go_simp; (try with_reducible rfl))
        try simp only [Act.put, List.setIfInBounds_toArray, List.set_cons_zero, List.set_cons_succ]
        refine wpAnyH_take (i := 3) (oi := { dst := some 56, op := Op.load 37 (Operand.tmp 55), type := 37, pos := "journal.go:103", after := #[{ on := 2, ground := Ground.data }], guard := none }) (v := ?vq4_3) rfl (by kernel_rfl) (by kernel_rfl) (by kernel_rfl) (fun _ _ _ h => h) (Or.inl ⟨by rfl, ?yq4_3⟩) (by assumption) ?rq4_3
        case yq4_3 => (intro w hSw; (try dsimp only at hSw); go_simp; (try with_reducible rfl))
        try simp only [Act.put, List.setIfInBounds_toArray, List.set_cons_zero, List.set_cons_succ]
        refine wpAnyH_take (i := 4) (oi := { dst := some 57, op := Op.load 62 (Operand.tmp 2), type := 62, pos := "journal.go:103", after := #[], guard := none }) (v := ?vq5_4) rfl (by kernel_rfl) (by kernel_rfl) (by kernel_rfl) (fun _ _ _ h => h) (Or.inl ⟨by rfl, ?yq5_4⟩) (by assumption) ?rq5_4
        case yq5_4 => (intro w hSw; (try dsimp only at hSw); go_simp; (try with_reducible rfl))
        try simp only [Act.put, List.setIfInBounds_toArray, List.set_cons_zero, List.set_cons_succ]
        refine wpAnyH_take (i := 5) (oi := { dst := some 58, op := Op.nilCheck (Operand.tmp 57), type := 0, pos := "journal.go:103", after := #[{ on := 4, ground := Ground.data }], guard := none }) (v := ?vq6_5) rfl (by kernel_rfl) (by kernel_rfl) (by kernel_rfl) (fun _ _ _ h => h) (Or.inl ⟨by rfl, ?yq6_5⟩) (by assumption) ?rq6_5
        case yq6_5 => (intro w hSw; (try dsimp only at hSw); go_simp; (try with_reducible rfl))
        try simp only [Act.put, List.setIfInBounds_toArray, List.set_cons_zero, List.set_cons_succ]
        refine wpAnyH_take (i := 6) (oi := { dst := some 59, op := Op.fieldAddr 118 (Operand.tmp 58) 1, type := 0, pos := "journal.go:103", after := #[{ on := 5, ground := Ground.data }], guard := none }) (v := ?vq7_6) rfl (by kernel_rfl) (by kernel_rfl) (by kernel_rfl) (fun _ _ _ h => h) (Or.inl ⟨by rfl, ?yq7_6⟩) (by assumption) ?rq7_6
        case yq7_6 => (intro w hSw; (try dsimp only at hSw); go_simp; (try with_reducible rfl))
        try simp only [Act.put, List.setIfInBounds_toArray, List.set_cons_zero, List.set_cons_succ]
        refine wpAnyH_take (i := 7) (oi := { dst := some 60, op := Op.load 3 (Operand.tmp 59), type := 3, pos := "journal.go:103", after := #[{ on := 6, ground := Ground.data }], guard := none }) (v := ?vq8_7) rfl (by kernel_rfl) (by kernel_rfl) (by kernel_rfl) (fun _ _ _ h => h) (Or.inl ⟨by rfl, ?yq8_7⟩) (by assumption) ?rq8_7
        case yq8_7 => (intro w hSw; (try dsimp only at hSw); go_simp; (try with_reducible rfl))
        try simp only [Act.put, List.setIfInBounds_toArray, List.set_cons_zero, List.set_cons_succ]
        refine wpAnyH_take (i := 8) (oi := { dst := some 61, op := Op.move (Operand.tmp 5), type := 2, pos := "journal.go:103", after := #[], guard := none }) (v := ?vq9_8) rfl (by kernel_rfl) (by kernel_rfl) (by kernel_rfl) (fun _ _ _ h => h) (Or.inl ⟨by rfl, ?yq9_8⟩) (by assumption) ?rq9_8
        case yq9_8 => (intro w hSw; (try dsimp only at hSw); go_simp; (try with_reducible rfl))
        try simp only [Act.put, List.setIfInBounds_toArray, List.set_cons_zero, List.set_cons_succ]
        refine wpAnyH_take (i := 9) (oi := { dst := some 62, op := Op.binOp BinOp.quo 2 (Operand.tmp 61) (Operand.const (Value.int IntKind.i64 64)) 2, type := 2, pos := "journal.go:103", after := #[{ on := 8, ground := Ground.data }], guard := none }) (v := ?vq10_9) rfl (by kernel_rfl) (by kernel_rfl) (by kernel_rfl) (fun _ _ _ h => h) (Or.inl ⟨by rfl, ?yq10_9⟩) (by assumption) ?rq10_9
        case yq10_9 => (intro w hSw; (try dsimp only at hSw); go_simp; (try with_reducible rfl))
        try simp only [Act.put, List.setIfInBounds_toArray, List.set_cons_zero, List.set_cons_succ]
        refine wpAnyH_take (i := 10) (oi := { dst := some 63, op := Op.binOp BinOp.add 3 (Operand.tmp 60) (Operand.tmp 62) 3, type := 3, pos := "journal.go:103", after := #[{ on := 7, ground := Ground.data }, { on := 9, ground := Ground.data }], guard := none }) (v := ?vq11_10) rfl (by kernel_rfl) (by kernel_rfl) (by kernel_rfl) (fun _ _ _ h => h) (Or.inl ⟨by rfl, ?yq11_10⟩) (by assumption) ?rq11_10
        case yq11_10 => (intro w hSw; (try dsimp only at hSw); go_simp; (try with_reducible rfl))
        try simp only [Act.put, List.setIfInBounds_toArray, List.set_cons_zero, List.set_cons_succ]
        refine wpAnyH_ready (rs := [11]) (by kernel_rfl) (by simp) ?_
        refine AllReadyH.cons (o := { dst := some 64, op := Op.call { callee := Callee.value (Operand.func 33), args := #[Operand.tmp 56, Operand.tmp 63], argTypes := #[37, 3] }, type := 48, pos := "journal.go:103", after := #[{ on := 3, ground := Ground.data }, { on := 10, ground := Ground.data }], guard := none }) rfl (fun K hK => ?_) AllReadyH.nil
        go_simp; refine HLR.out.mono ?_; rintro e W2 ⟨oa, rfl, hm2⟩; have k1 := (hm2.cell (p := ⟨w.heap.size, 0, none⟩) (World.block_lt_of_cell? W1 _ hbx1) (fun h => h)).trans hbx1; have k2 := (hm2.cell (p := ⟨j, 0, none⟩) (World.block_lt_of_cell? W1 _ hj0) (fun h => h)).trans hj0; have k3 := (hm2.cell (p := ⟨j, 1, none⟩) (World.block_lt_of_cell? W1 _ hj1) (fun h => h)).trans hj1; have HM2 := hid ((Mod.refl None W1).drew.trans hm2); clear hm2; go_wp2_with fail
        refine hK.out _ _ ?_ (fun hHeld => ?_)
        · first | exact ⟨k1, k2, k3⟩ | exact ⟨hbx1, hj0, hj1⟩
        clear hK K
        try simp only [Act.put, List.setIfInBounds_toArray, List.set_cons_zero, List.set_cons_succ]
        refine wpAnyH_take (i := 12) (oi := { dst := some 52, op := Op.move (Operand.tmp 64), type := 48, pos := "journal.go:103", after := #[{ on := 11, ground := Ground.data }], guard := none }) (v := ?vq12_12) rfl (by kernel_rfl) (by kernel_rfl) (by kernel_rfl) (fun _ _ _ h => h) (Or.inl ⟨by rfl, ?yq12_12⟩) (by assumption) ?rq12_12
        case yq12_12 => (intro w hSw; (try dsimp only at hSw); go_simp; (try with_reducible rfl))
        try simp only [Act.put, List.setIfInBounds_toArray, List.set_cons_zero, List.set_cons_succ]
        refine wpAnyH_take (i := 13) (oi := { dst := some 65, op := Op.extract (Operand.tmp 52) 0, type := 27, pos := "journal.go:103", after := #[{ on := 12, ground := Ground.data }], guard := none }) (v := ?vq13_13) rfl (by kernel_rfl) (by kernel_rfl) (by kernel_rfl) (fun _ _ _ h => h) (Or.inl ⟨by rfl, ?yq13_13⟩) (by assumption) ?rq13_13
        case yq13_13 => (intro w hSw; (try dsimp only at hSw); go_simp; (try with_reducible rfl))
        try simp only [Act.put, List.setIfInBounds_toArray, List.set_cons_zero, List.set_cons_succ]
        refine wpAnyH_take (i := 14) (oi := { dst := some 66, op := Op.extract (Operand.tmp 52) 1, type := 40, pos := "journal.go:103", after := #[{ on := 12, ground := Ground.data }, { on := 15, ground := Ground.gcOnly Departure.lateStores }], guard := none }) (v := ?vq14_14) rfl (by kernel_rfl) (by kernel_rfl) (by kernel_rfl) (fun _ _ _ h => h) (Or.inl ⟨by rfl, ?yq14_14⟩) (by assumption) ?rq14_14
        case yq14_14 => (intro w hSw; (try dsimp only at hSw); go_simp; (try with_reducible rfl))
        try simp only [Act.put, List.setIfInBounds_toArray, List.set_cons_zero, List.set_cons_succ]
        refine wpAnyH_take (i := 15) (oi := { dst := some 9, op := Op.assign (Operand.tmp 65), type := 27, pos := "journal.go:103", after := #[{ on := 13, ground := Ground.data }, { on := 11, ground := Ground.chain }, { on := 0, ground := Ground.phase }, { on := 1, ground := Ground.phase }, { on := 2, ground := Ground.phase }, { on := 3, ground := Ground.phase }, { on := 4, ground := Ground.phase }, { on := 5, ground := Ground.phase }, { on := 6, ground := Ground.phase }, { on := 7, ground := Ground.phase }, { on := 8, ground := Ground.phase }, { on := 9, ground := Ground.phase }, { on := 10, ground := Ground.phase }, { on := 11, ground := Ground.phase }, { on := 12, ground := Ground.phase }, { on := 13, ground := Ground.phase }, { on := 14, ground := Ground.textOnly Departure.lateStores }], guard := none }) (v := ?vq15_15) rfl (by kernel_rfl) (by kernel_rfl) (by kernel_rfl) (fun _ _ _ h => h) (Or.inl ⟨by rfl, ?yq15_15⟩) (by assumption) ?rq15_15
        case yq15_15 => (intro w hSw; (try dsimp only at hSw); go_simp; (try with_reducible rfl))
        try simp only [Act.put, List.setIfInBounds_toArray, List.set_cons_zero, List.set_cons_succ]
        refine wpAnyH_take (i := 16) (oi := { dst := some 10, op := Op.assign (Operand.tmp 66), type := 40, pos := "journal.go:103", after := #[{ on := 14, ground := Ground.data }, { on := 15, ground := Ground.chain }, { on := 0, ground := Ground.phase }, { on := 1, ground := Ground.phase }, { on := 2, ground := Ground.phase }, { on := 3, ground := Ground.phase }, { on := 4, ground := Ground.phase }, { on := 5, ground := Ground.phase }, { on := 6, ground := Ground.phase }, { on := 7, ground := Ground.phase }, { on := 8, ground := Ground.phase }, { on := 9, ground := Ground.phase }, { on := 10, ground := Ground.phase }, { on := 11, ground := Ground.phase }, { on := 12, ground := Ground.phase }, { on := 13, ground := Ground.phase }, { on := 14, ground := Ground.phase }, { on := 15, ground := Ground.phase }], guard := none }) (v := ?vq16_16) rfl (by kernel_rfl) (by kernel_rfl) (by kernel_rfl) (fun _ _ _ h => h) (Or.inl ⟨by rfl, ?yq16_16⟩) (by assumption) ?rq16_16
        case yq16_16 => (intro w hSw; (try dsimp only at hSw); go_simp; (try with_reducible rfl))
        try simp only [Act.put, List.setIfInBounds_toArray, List.set_cons_zero, List.set_cons_succ]
        refine wpAnyH_done (by kernel_rfl) ?_ _
        refine NoPanic.normal ?_
        clear k2 k3 hj0 hj1 HLR
        have HMT := hid (HM.out.trans (HFM.out.trans HM2.out))
        have HRBT := hid ((HFM.out.trans HM2.out).blk HRB.out (fun h => h))
        have HJT := hid (show IsJ W2 j p fr to en ct from (HFM.out.trans HM2.out).blk HJ.out (fun h => h))
        have HLT2 := hid (HLV.out.step (HFM.out.trans HM2.out))
        have hfz2 := HRBT.out.free 0
        have hce2 : W2.cell? ⟨w.heap.size + 1, 0, none⟩ = some (.int .i64 0) := HRBT.out.is rfl
        go_wp2_with fail
        have hms : Mod (fun x => x = w.heap.size + 1) W2 (W2.setCell ⟨w.heap.size + 1, 0, none⟩ (.int .i64 32)) := Mod.set (S := fun x => x = w.heap.size + 1) (Mod.refl _ _) (.inl rfl) _
        refine ret47 _ _ (w.heap.size + 1) 32 rfl ((HRBT.out.set 0 _).is rfl) ?_
        rw [HST.out]
        refine ⟨S, rfl, (HLT2.out.turn (T := fun x => x = w.heap.size + 1) (T' := fun x => x = w.heap.size + 1) (.same hms) (fun x hx e => by have := HLT.out x hx; omega) (fun x e => by have := HW0.out; omega)).1, ?_, ((HMT.out.then hms (fun i hi e => by omega)).mono (fun _ _ h => h.elim)), fun x _ h => h⟩
        rw [if_neg (show ¬ (32 : Int) = 0 by decide), if_neg (show ¬ (32 : Int) = 0 by decide)]
        exact hms.blk HJT.out (by have := HJL.out; omega)
    · have hp1 : ¬ (ix : Int) * 64 < (en : Int) := by have := HPT.out; have := HIX.out; omega
      have HJA := hid (show jall st fr en b = frameL b by unfold jall jpart; rw [← HPT.out, if_neg hp]; rfl)
      clear hp
      go_wp2_with fail
      go_meet
      case rel => exact ⟨fa, fc, by rw [HJA.out, HFL.out], by rw [HJA.out]; exact HC0.out⟩
  case rest =>
    obtain ⟨fa2, fc2, rfl, hcr⟩ := hcut
    have HAL := hid (show (jall st fr en b).length ≤ bl + 16 + 64 by
      unfold jall jpart
      rw [List.length_append, HFL.out]
      split
      · rw [List.length_take]; omega
      · simp)
    have HCR := hid hcr.out
    clear hcr
    generalize hal : jall st fr en b = al at *
    have HALE := hid hal
    clear hal
    have hbxc : wc.cell? ⟨w.heap.size, 0, none⟩ = some (.pointer (some ⟨j, 0, none⟩)) := (HCR.out.2.2.2.blk HBX.out (fun h => h)).is rfl
    obtain ⟨⟨q, rest, rfl, hq1, hqb⟩, hc1, hc2, hcm⟩ := HCR.out
    have hqx := hqb.lt
    go_wp2_with fail
    refine (sectors_any wc j (some ⟨q, 0, none⟩) al.length fc2 _).mono ?_
    rintro e W4 ⟨rfl, hw4⟩
    have hm4 : Mod None wc W4 := by rw [hw4]; exact (((Mod.refl None wc).alloc _).alloc _).alloc _
    have hs4 : W4.heap.size = wc.heap.size + 3 := by rw [hw4]; simp
    have hbb : Blk W4 (wc.heap.size + 1) 27 [.slice (some ⟨q, 0, none⟩) al.length fc2] := by
      rw [hw4]
      have := (Blk.new (wc.alloc (.cells #[.pointer (some ⟨j, 0, none⟩)] 62)) 27 #[.slice (some ⟨q, 0, none⟩) al.length fc2]).alloc (.cells #[.int .i64 ((ix : Int) * 64)] 2)
      simpa using this
    have hbj : Blk W4 wc.heap.size 62 [.pointer (some ⟨j, 0, none⟩)] := by rw [hw4]; exact ((Blk.new wc 62 _).alloc _).alloc _
    have hba : Blk W4 (wc.heap.size + 2) 2 [.int .i64 ((ix : Int) * 64)] := by
      rw [hw4]
      have := Blk.new ((wc.alloc (.cells #[.pointer (some ⟨j, 0, none⟩)] 62)).alloc (.cells #[.slice (some ⟨q, 0, none⟩) al.length fc2] 27)) 2 #[.int .i64 ((ix : Int) * 64)]
      simpa using this
    have HM4 := hid (hcm.trans hm4)
    have HJ4 := hid (show IsJ W4 j p fr to en ct from HM4.out.blk HJ.out (fun h => h))
    have hfr4 : W4.cell? ⟨j, 1, none⟩ = some (.int .i64 (fr : Int)) := HJ4.out.cells.2.1
    have HBX4 := hid (HM4.out.blk HBX.out (fun h => h))
    have HRB4 := hid (HM4.out.blk HRB.out (fun h => h))
    have hws : wc.heap.size ≥ w.heap.size + 2 := by have := hcm.size; have := HWS.out; omega
    have HWC := hid hws
    have HSP : Hid (Spots w0 W4 S (wc.heap.size + 1) (w.heap.size + 1) q) := by
      have h1 := HWS.out
      have h2 := HW0.out
      refine ⟨by omega, by omega, by omega, fun hs => ?_, fun hs => ?_, fun hs => ?_, by omega, by omega, by omega, by omega, by omega, HNW.out, fun k hk => ?_⟩
      · have := HLT.out _ hs; omega
      · have := HLT.out _ hs; omega
      · have := HLT.out _ hs; omega
      · have := HLT.out _ hk; omega
    have HLV4 := hid (HLV.out.step HM4.out)
    have HRD4 := hid (show Rd W4 (some ⟨q, 0, none⟩) al from (hm4.blk hqb (fun h => h)).rdv 0 (fun i hi => by rw [Nat.zero_add, List.getElem?_append_left hi]))
    have HBB := hid hbb
    have HCC := hid (And.intro hc1 hc2)
    have HS4 := hid (show wc.heap.size + 3 = W4.heap.size from hs4.symm)
    have hcbj : W4.cell? ⟨wc.heap.size, 0, none⟩ = some (.pointer (some ⟨j, 0, none⟩)) := hbj.is rfl
    have hcba : W4.cell? ⟨wc.heap.size + 2, 0, none⟩ = some (.int .i64 (((ix * 64 : Nat)) : Int)) := by rw [show (((ix * 64 : Nat)) : Int) = (ix : Int) * 64 by omega]; exact hba.is rfl
    have HCB := hid (And.intro hcbj hcba)
    clear hw4 hm4 hs4 hbb hbj hba hq1 hqb hqx hc1 hc2 hcm hcbj hcba HCR
    obtain ⟨res, hres⟩ : ∃ res, wrs (al.length + 1) st (fr + ix) al = res := ⟨_, rfl⟩
    have HRES := hid hres
    clear hres
    go_wp2_with fail
    refine wp_sectors (bj := wc.heap.size) (ba := wc.heap.size + 2) (bf := wc.heap.size + 1) (j := j) (fr := fr) (at' := ix * 64) (i0 := fr + ix) (f := al) ?hfl ?hg
      (fun k a c W' => LJ w0 W4 S p (wc.heap.size + 1) (w.heap.size + 1) q (fr + ix) st.waits.length al res k k a c W')
      (fun k a c W' => LJ w0 W4 S p (wc.heap.size + 1) (w.heap.size + 1) q (fr + ix) st.waits.length al res (k + 1) k a c W')
      (fun W' => LX w0 W4 S p (wc.heap.size + 1) (w.heap.size + 1) res W') ?hIp ?hIp' ?hIpx (some ⟨q, 0, none⟩) fc2 ?h0 ?hId ?hI ?hN ?hbf HCB.out.1 HCB.out.2 hfr4 ?hi0 ?hb ?a1 ?hassign ?hbody ?hdone ?hstop
    case hfl => have := HAL.out; omega
    case hg => rfl
    case hIp => exact fun k a c W l o o' h1 h2 _ h => h.put HSP.out l o' h1 h2 (by have := HS4.out; have := HW0.out; omega)
    case hIp' => exact fun k a c W l o o' h1 h2 _ h => h.put HSP.out l o' h1 h2 (by have := HS4.out; have := HW0.out; omega)
    case hIpx => exact fun W l o o' h1 h2 _ h => h.put HSP.out l o' h1 h2 (by have := HS4.out; have := HW0.out; omega)
    case hassign =>
      intro l x v W' K hK
      gi_wp2
      exact hK
    case h0 =>
      intro o1 o2
      have hm : Mod None W4 ((W4.alloc o1).alloc o2) := ((Mod.refl None W4).alloc o1).alloc o2
      refine ⟨S, st, HLV4.out.step hm, ?_, fun x _ h => h, Nat.le_refl _, hm.mono (fun _ _ h => h.elim), by simp, ?_, hm.blk HRB4.out (fun h => h), hm.rd HRD4.out (fun _ _ h => h), .inr ⟨0, rfl⟩, HCC.out.1, HCC.out.2⟩
      · simpa using HRES.out
      · exact hm.blk HBB.out (fun h => h)
    case hId => exact fun k a c W n h => h.keep HSP.out (mod_drewN W n)
    case hI => exact fun k a c W h => h.read
    case hN => exact fun k a c W h => ⟨h.read.1, h.read.2.1, h.read.2.2.1, fun a2 c2 hr hm hc hc2 => h.box HSP.out hr (h.spot hm) hc hc2⟩
    case hbf => have := HS4.out; omega
    case hi0 => omega
    case hb => have := HRNG.out; omega
    case hbody =>
      intro l k a' c' W' hi hk
      have hmi := hi.mod
      have h1 := HWS.out
      have hnj : ¬ (S j ∨ j = wc.heap.size + 1 ∨ j = w.heap.size + 1) := by
        have := HJL.out
        rintro (h | h | h)
        · exact hjS h
        · omega
        · omega
      have hnb : ¬ (S w.heap.size ∨ w.heap.size = wc.heap.size + 1 ∨ w.heap.size = w.heap.size + 1) := by
        rintro (h | h | h)
        · have := HLT.out _ h; omega
        · omega
        · omega
      have hbx' : W'.cell? ⟨w.heap.size, 0, none⟩ = some (.pointer (some ⟨j, 0, none⟩)) := (hmi.blk HBX4.out hnb).is rfl
      have hj0' : W'.cell? ⟨j, 0, none⟩ = some (.pointer (some ⟨p, 0, none⟩)) := Blk.is (hmi.blk HJ4.out hnj) rfl
      have HWR := hid (hi.write HSP.out hk (by have := HX.out; have := HAL.out; omega) _ rfl)
      have HSZ := hid hi.size
      clear hmi hnj hnb hi hk h1
      generalize Nat.min (al.length - 64 * k) 64 = m at *
      rw [show (((fr + ix : Nat)) : Int) = (fr : Int) + (ix : Int) by omega] at HWR
      have HFAR := hid (show ∀ (X : World) (v : Value) (x : Nat), W4.heap.size ≤ x → x < X.heap.size → (X.setCell ⟨w.heap.size + 1, 0, none⟩ v).heap[x]? = X.heap[x]? from fun X v x hx hlt => by
        have hmm : Mod (fun k => k = w.heap.size + 1) X (X.setCell ⟨w.heap.size + 1, 0, none⟩ v) := Mod.set (S := fun k => k = w.heap.size + 1) (Mod.refl _ _) (.inl rfl) v
        exact hmm.block x hlt (fun e => by have := HSP.out.rbl; omega))
      gi_wp2_with fail
      refine ⟨trivial, (CallsIn.inRound l (callsIn_wide.2 HWR.out)).mono ?_⟩
      rintro e w' ⟨e0, rfl, hkp, hrb, ⟨rfl, hlj⟩ | ⟨hne, hlx⟩⟩
      · have HKP := hid hkp
        have HLJ := hid hlj
        clear hkp hrb hlj HWR
        gi_wp2
        exact ⟨HKP.out, HLJ.out⟩
      · have HKP := hid hkp
        have HLX := hid hlx
        have HNE := hid hne
        have hrb0 : w'.cell? ⟨w.heap.size + 1, 0, none⟩ = some (.int .i64 0) := hrb.is rfl
        have hrbf := hrb.free 0
        have hne' : ¬ e0 = 0 := hne
        clear hkp hrb hlx HWR hne
        gi_wp2
        refine ⟨fun x hx hx2 => ?_, HLX.out⟩
        have hlt : x < w'.heap.size := by
          have e := HKP.out x hx hx2
          have e2 : W'.heap[x]? = some (W'.heap[x]'(by have := HSZ.out; omega)) := Array.getElem?_eq_getElem _
          rw [e2] at e
          exact (Array.getElem?_eq_some_iff.1 e).1
        exact (HFAR.out _ _ x hx hlt).trans (HKP.out x hx hx2)
    case hdone =>
      intro k a' c' W' hk hi hD
      have hmi := hi.mod
      have h1 := HWS.out
      have hnj : ¬ (S j ∨ j = wc.heap.size + 1 ∨ j = w.heap.size + 1) := by
        have := HJL.out
        rintro (h | h | h)
        · exact hjS h
        · omega
        · omega
      have hnb : ¬ (S w.heap.size ∨ w.heap.size = wc.heap.size + 1 ∨ w.heap.size = w.heap.size + 1) := by
        rintro (h | h | h)
        · have := HLT.out _ h; omega
        · omega
        · omega
      obtain ⟨S', stk, b1, b2, b3, _, b5, b6, _, b8, _⟩ := hi
      have hnil : al.drop (64 * k) = [] := List.drop_eq_nil_of_le hk
      rw [hnil, wrs_nil] at b2
      have hbx' : W'.cell? ⟨w.heap.size, 0, none⟩ = some (.pointer (some ⟨j, 0, none⟩)) := (hmi.blk HBX4.out hnb).is rfl
      have HJW := hid (show IsJ W' j p fr to en ct from hmi.blk HJ4.out hnj)
      obtain ⟨hj0', _, _, _, _⟩ := HJW.out.cells
      have HAP := hid (show st.append fr en b = stk.flush by
        unfold DSt.append
        rw [HALE.out, ← HIX.out, HRES.out, ← b2]; rfl)
      have HF := hid (live_flush b1)
      obtain ⟨st2, e2, hfe⟩ : ∃ st2 e2, stk.flush = (st2, e2) := ⟨_, _, rfl⟩
      rw [hfe] at HF HAP
      have hnS : ∀ x, x < W4.heap.size + 2 → ¬ S x → ¬ S' x := fun x hx hn h => hn (b3 x hx h)
      have HNJ := hid (hnS j (by have := HJL.out; have := HS4.out; omega) hjS)
      have HNB := hid (hnS w.heap.size (by have := HS4.out; omega) (fun h => by have := HLT.out _ h; omega))
      have HNR := hid (hnS (w.heap.size + 1) (by have := HS4.out; omega) (fun h => by have := HLT.out _ h; omega))
      have HND := hid (hnS W4.heap.size (by omega) (fun h => by have := HLT.out _ h; have := HS4.out; omega))
      have HBXW := hid (hmi.blk HBX4.out hnb)
      have HRBW := hid b8
      have HMW := hid hmi
      have H3 := hid b3
      have H6 := hid b6
      have HD := hid hD
      clear hmi hnj hnb b1 b2 b3 b5 b6 b8 hnil hfe hnS hk h1 hD
      go_wp2_with fail
      refine HF.out.mono ?_
      rintro e W2 ⟨S2, rfl, hl2, ht2⟩
      have HL2 := hid hl2
      have HT2 := hid ht2
      have HJ2 := hid (show IsJ W2 j p fr to en ct from ht2.mod.blk HJW.out HNJ.out)
      have HBX2 := hid (ht2.mod.blk HBXW.out HNB.out)
      have HRB2 := hid (ht2.mod.blk HRBW.out HNR.out)
      have HD2 := hid (show W2.heap[W4.heap.size]? = some (.deferred (some [])) by rw [ht2.mod.block W4.heap.size (by have := H6.out; omega) HND.out]; exact HD.out)
      have hbx2 : W2.cell? ⟨w.heap.size, 0, none⟩ = some (.pointer (some ⟨j, 0, none⟩)) := HBX2.out.is rfl
      have hrb2 : W2.cell? ⟨w.heap.size + 1, 0, none⟩ = some (.int .i64 0) := HRB2.out.is rfl
      have hrbf := HRB2.out.free 0
      clear hl2 ht2 HF hbx' hj0'
      by_cases h0 : e2 = 0
      · subst h0
        obtain ⟨_, _, _, hj3, hj4⟩ := HJ2.out.cells
        have f3 := Blk.free HJ2.out 3
        have f4 := Blk.free HJ2.out 4
        have hsz2 := HT2.out.mod.size
        have hfin := fun (X : World) (hx : Mod (fun x => x = j ∨ x = w.heap.size + 1 ∨ x = W4.heap.size) W2 X) => append_fin (X := X) HM.out HM4.out HMW.out H3.out HT2.out HL2.out hx (fun x h => by
            have := HM.out.size
            have := HS4.out
            have := HWC.out
            rcases h with h | h | h
            · exact .inl h
            · exact .inr (by omega)
            · exact .inr (by omega)) (fun x h => by
            have := H6.out
            have := HW0.out
            have := HWC.out
            have := HS4.out
            have := HJL.out
            rcases h with rfl | rfl | rfl
            · exact ⟨by omega, HNJ.out, hj0⟩
            · exact ⟨by omega, HNR.out, by omega⟩
            · exact ⟨by omega, HND.out, by omega⟩) (by have := HWC.out; omega) (by omega)
        have HFIN := hid hfin
        clear hfin hsz2
        have hct : IntKind.i64.wrap ((ct : Int) + 1) = (ct : Int) + 1 := wrap_in _ (by omega)
        go_wp2_with fail
        refine wp_region_noPanic ?_
        go_region
        all_goals
          refine NoPanic.normal ?_
          go_wp2_with fail
        have hX : Mod (fun x => x = j ∨ x = w.heap.size + 1) W2 (((W2.setCell ⟨j, 3, none⟩ (.int .i64 ((en : Int) + ((bl : Int) + 16)))).setCell ⟨j, 4, none⟩ (.int .i64 ((ct : Int) + 1))).setCell ⟨w.heap.size + 1, 0, none⟩ (.int .i64 0)) :=
          Mod.set (S := fun x => x = j ∨ x = w.heap.size + 1) (Mod.set (S := fun x => x = j ∨ x = w.heap.size + 1) (Mod.set (S := fun x => x = j ∨ x = w.heap.size + 1) (Mod.refl _ _) (.inl (.inl rfl)) _) (.inl (.inl rfl)) _) (.inl (.inr rfl)) _
        have hjr : j ≠ w.heap.size + 1 := by have := HJL.out; omega
        have hJX : IsJ (((W2.setCell ⟨j, 3, none⟩ (.int .i64 ((en : Int) + ((bl : Int) + 16)))).setCell ⟨j, 4, none⟩ (.int .i64 ((ct : Int) + 1))).setCell ⟨w.heap.size + 1, 0, none⟩ (.int .i64 0)) j p fr to ((en : Int) + ((bl : Int) + 16)) ((ct : Int) + 1) :=
          ((Blk.set HJ2.out 3 _).set 4 _).set_other (by exact hjr) _
        have hRX := ((HRB2.out.set_other (a := ⟨j, 3, none⟩) (by exact Ne.symm hjr) (.int .i64 ((en : Int) + ((bl : Int) + 16)))).set_other (a := ⟨j, 4, none⟩) (by exact Ne.symm hjr) (.int .i64 ((ct : Int) + 1))).set 0 (.int .i64 0)
        generalize ((W2.setCell ⟨j, 3, none⟩ (.int .i64 ((en : Int) + ((bl : Int) + 16)))).setCell ⟨j, 4, none⟩ (.int .i64 ((ct : Int) + 1))).setCell ⟨w.heap.size + 1, 0, none⟩ (.int .i64 0) = X at *
        have hd3 : X.heap[W4.heap.size]? = some (.deferred (some [])) := by
          rw [hX.block W4.heap.size (Array.getElem?_eq_some_iff.1 HD2.out).1 (by have := HSP.out.rbl; have := HJL.out; have := HS4.out; have := HWC.out; omega)]; exact HD2.out
        have hmx : Mod (fun x => x = j ∨ x = w.heap.size + 1 ∨ x = W4.heap.size) W2 (X.drew.putObj W4.heap.size (.deferred none)) :=
          (hX.drew.mono (fun x _ h => h.imp id Or.inl)).trans ((mod_putObj X.drew W4.heap.size (.deferred none)).mono (fun x _ h => Or.inr (Or.inr h)))
        obtain ⟨g1, g2, g3⟩ := HFIN.out _ hmx
        refine ret47d _ _ (w.heap.size + 1) W4.heap.size 0 hd3 rfl (hRX.is rfl) ?_
        rw [HAP.out]
        refine ⟨S2, rfl, g1, ?_, g2, g3⟩
        show IsJ _ _ _ _ _ (if (0 : Int) = 0 then ((en + bl + 16 : Nat) : Int) else (en : Int)) (if (0 : Int) = 0 then ((ct + 1 : Nat) : Int) else (ct : Int))
        rw [if_pos rfl, if_pos rfl]
        have := (mod_putObj X.drew W4.heap.size (.deferred none)).blk (Blk.drew hJX) (by have := HJL.out; have := HS4.out; have := HWC.out; omega)
        have e1 : ((en + bl + 16 : Nat) : Int) = (en : Int) + ((bl : Int) + 16) := by omega
        have e2 : ((ct + 1 : Nat) : Int) = (ct : Int) + 1 := by omega
        rw [e1, e2]; exact this
      · have hne : ¬ e2 = 0 := h0
        have hfin := fun (X : World) (hx : Mod (fun x => x = w.heap.size + 1 ∨ x = W4.heap.size) W2 X) => append_fin (X := X) (j := j) HM.out HM4.out HMW.out H3.out HT2.out HL2.out hx (fun x h => by
            have := HS4.out
            have := HWC.out
            rcases h with h | h
            · exact .inr (by omega)
            · exact .inr (by omega)) (fun x h => by
            have := H6.out
            have := HW0.out
            have := HWC.out
            have := HS4.out
            rcases h with rfl | rfl
            · exact ⟨by omega, HNR.out, by omega⟩
            · exact ⟨by omega, HND.out, by omega⟩) (by have := HWC.out; omega) (by omega)
        have HFIN := hid hfin
        clear hfin
        go_wp2_with fail
        have hms : Mod (fun x => x = w.heap.size + 1 ∨ x = W4.heap.size) W2 (W2.setCell ⟨w.heap.size + 1, 0, none⟩ (.int .i64 e2)) := Mod.set (Mod.refl _ _) (.inl (.inl rfl)) _
        have hd3 : (W2.setCell ⟨w.heap.size + 1, 0, none⟩ (.int .i64 e2)).heap[W4.heap.size]? = some (.deferred (some [])) := by
          have hmm : Mod (fun x => x = w.heap.size + 1) W2 (W2.setCell ⟨w.heap.size + 1, 0, none⟩ (.int .i64 e2)) := Mod.set (S := fun x => x = w.heap.size + 1) (Mod.refl _ _) (.inl rfl) _
          rw [hmm.block W4.heap.size (Array.getElem?_eq_some_iff.1 HD2.out).1 (by have := HSP.out.rbl; omega)]; exact HD2.out
        have hmx := hms.trans ((mod_putObj (W2.setCell ⟨w.heap.size + 1, 0, none⟩ (.int .i64 e2)) W4.heap.size (.deferred none)).mono (fun x _ h => Or.inr h))
        obtain ⟨g1, g2, g3⟩ := HFIN.out _ hmx
        refine ret47d _ _ (w.heap.size + 1) W4.heap.size e2 hd3 rfl ((HRB2.out.set 0 _).is rfl) ?_
        rw [HAP.out]
        refine ⟨S2, rfl, g1, ?_, g2, g3⟩
        rw [if_neg hne, if_neg hne]
        exact hmx.blk HJ2.out (by have := HJL.out; have := HS4.out; have := HWC.out; omega)
    case hstop =>
      intro W' hx hD
      obtain ⟨S', b1, b2, b3, b5, b8⟩ := hx
      have HAP := hid (show st.append fr en b = res by
        unfold DSt.append
        rw [HALE.out, ← HIX.out, HRES.out, if_neg b2])
      have hmx := mod_putObj W' W4.heap.size (.deferred none)
      have hDl := (Array.getElem?_eq_some_iff.1 hD).1
      have hfin := append_fin (X := W'.putObj W4.heap.size (.deferred none)) (j := j) HM.out HM4.out b5 b3 (Turn.same (Mod.refl S' W')) b1 hmx (fun x h => .inr (by have := HS4.out; have := HWC.out; omega))
        (fun x h => ⟨by omega, fun hs => by have := HLT.out _ (b3 x (by omega) hs); have := HS4.out; have := HWC.out; omega, by have := HS4.out; have := HWC.out; have := HW0.out; omega⟩) (by have := HWC.out; omega) (by omega)
      have HFIN := hid hfin
      have HJX := hid (show IsJ W' j p fr to en ct from b5.blk HJ4.out (by
        have := HJL.out
        have := HWC.out
        rintro (h | h | h)
        · exact hjS h
        · omega
        · omega))
      have HR8 := hid b8
      have HB2 := hid b2
      have HMX := hid hmx
      have HDD := hid hD
      clear hmx hfin b1 b3 b5 b8 b2 hDl hD
      go_wp2_with fail
      refine ret47d _ _ (w.heap.size + 1) W4.heap.size res.2 HDD.out rfl (HR8.out.is rfl) ?_
      obtain ⟨g1, g2, g3⟩ := HFIN.out
      rw [HAP.out]
      refine ⟨S', rfl, g1, ?_, g2, g3⟩
      rw [if_neg HB2.out, if_neg HB2.out]
      exact HMX.out.blk HJX.out (by have := HJL.out; have := HS4.out; have := HWC.out; omega)
end Go.Proofs.Ytdhhpnfdnoaihaa

/-! P5 -/
/- The plain law of a journal when the power goes. -/
namespace Go.Proofs.Ytdhhpnfdnoaihaa
open Go.RowKit

theorem getD_at {l : List (List UInt8)} {i : Nat} (h : i < l.length) : l.getD i [] = l[i] := by
  rw [List.getD_eq_getElem?_getD, List.getElem?_eq_getElem h]; rfl
/-- the first `en` bytes from `fr` on are the same -/
structure Alike (fr en : Nat) (l l' : List (List UInt8)) : Prop where
  len : l'.length = l.length
  sec : ∀ s ∈ l', s.length = 64
  top : l'.take (fr + en / 64) = l.take (fr + en / 64)
  part : (l'.getD (fr + en / 64) []).take (en % 64) = (l.getD (fr + en / 64) []).take (en % 64)
theorem Alike.refl {fr en : Nat} {l : List (List UInt8)} (h : ∀ s ∈ l, s.length = 64) : Alike fr en l l := ⟨rfl, h, rfl, rfl⟩
theorem flat_parts {fr en : Nat} {l : List (List UInt8)} (h : ∀ s ∈ l, s.length = 64) (hr : fr * 64 + en ≤ 64 * l.length) :
    (flat l fr).take en = ((l.take (fr + en / 64)).drop fr).flatten ++ (l.getD (fr + en / 64) []).take (en % 64) := by
  have hs : ∀ s ∈ l.drop fr, s.length = 64 := fun s hs => h s (List.mem_of_mem_drop hs)
  have e1 : (flat l fr).take en = (flat l fr).take (64 * (en / 64)) ++ ((flat l fr).drop (64 * (en / 64))).take (en % 64) := by
    rw [← List.take_add]; congr 1; omega
  rw [e1]
  unfold flat
  rw [flat_take _ _ hs, flat_drop _ _ hs, List.drop_take, show fr + en / 64 - fr = en / 64 by omega, List.drop_drop]
  congr 1
  by_cases hlt : fr + en / 64 < l.length
  · rw [List.drop_eq_getElem_cons hlt, List.flatten_cons, List.take_append_of_le_length (by rw [h _ (List.getElem_mem _)]; omega), getD_at hlt]
  · rw [show en % 64 = 0 by omega]; simp
theorem Alike.flat {fr en : Nat} {l l' : List (List UInt8)} (h : Alike fr en l l') (hs : ∀ s ∈ l, s.length = 64) (hr : fr * 64 + en ≤ 64 * l.length) : (Proofs.Ytdhhpnfdnoaihaa.flat l' fr).take en = (Proofs.Ytdhhpnfdnoaihaa.flat l fr).take en := by
  rw [flat_parts hs hr, flat_parts h.sec (by rw [h.len]; exact hr), h.top, h.part]
theorem Alike.set {fr en : Nat} {l l' : List (List UInt8)} (h : Alike fr en l l') {i : Nat} {y : List UInt8} (hi : fr + en / 64 ≤ i) (hy : y.length = 64) (hp : i = fr + en / 64 → y.take (en % 64) = (l.getD (fr + en / 64) []).take (en % 64)) :
    Alike fr en l (l'.set i y) := by
  refine ⟨by rw [List.length_set, h.len], sec_set h.sec i hy, ?_, ?_⟩
  · rw [List.take_set, List.set_eq_of_length_le (by rw [List.length_take]; omega), h.top]
  · by_cases e : i = fr + en / 64
    · subst e
      by_cases hlt : fr + en / 64 < l'.length
      · rw [getD_at (by rw [List.length_set]; exact hlt), List.getElem_set_self]; exact hp rfl
      · rw [List.set_eq_of_length_le (by omega)]; exact h.part
    · rw [List.getD_eq_getElem?_getD, List.getElem?_set_ne e, ← List.getD_eq_getElem?_getD]; exact h.part
theorem Alike.setAll {fr en : Nat} {l : List (List UInt8)} : ∀ (X : List (Nat × List UInt8)) (l' : List (List UInt8)), Alike fr en l l' →
    (∀ x ∈ X, fr + en / 64 ≤ x.1 ∧ x.2.length = 64 ∧ (x.1 = fr + en / 64 → x.2.take (en % 64) = (l.getD (fr + en / 64) []).take (en % 64))) → Alike fr en l (Proofs.Ytdhhpnfdnoaihaa.setAll l' X)
  | [], _, h, _ => h
  | x :: X, l', h, hx => Alike.setAll X (l'.set x.1 x.2) (h.set (hx x (by simp)).1 (hx x (by simp)).2.1 (hx x (by simp)).2.2) (fun y hy => hx y (by simp [hy]))
theorem laid_mem : ∀ (n i : Nat) (f : List UInt8), ∀ x ∈ laidL n i f, i ≤ x.1 ∧ x.2.length = 64 ∧ (x.1 = i → x.2 = pad64 (f.take 64))
  | 0, i, f, x, hx => by simp [laidL] at hx
  | n + 1, i, f, x, hx => by
    rw [laidL] at hx
    split at hx
    · simp at hx
    · rcases List.mem_cons.1 hx with rfl | hx
      · exact ⟨Nat.le_refl _, pad64_length _ (by rw [List.length_take]; omega), fun _ => rfl⟩
      · obtain ⟨h1, h2, _⟩ := laid_mem n (i + 1) _ x hx
        exact ⟨by omega, h2, fun e => by omega⟩
/-- what a run of writes leaves, however it ends -/
theorem wrs_some : ∀ (n : Nat) (st : DSt) (i : Nat) (f : List UInt8), i * 64 + f.length ≤ 64 * st.last.length →
    ∃ m, (wrs n st i f).1.last = st.last ∧ (wrs n st i f).1.waits = st.waits ++ (laidL n i f).take m ∧ ((wrs n st i f).2 = 0 → (laidL n i f).take m = laidL n i f)
  | 0, st, i, f, _ => ⟨0, rfl, by simp [wrs], fun _ => rfl⟩
  | n + 1, st, i, f, hr => by
    unfold wrs laidL
    by_cases hf : f = []
    · rw [if_pos hf, if_pos hf]; exact ⟨0, rfl, by simp, fun _ => rfl⟩
    · rw [if_neg hf, if_neg hf]
      have hpos : 0 < f.length := by
        cases f with
        | nil => exact absurd rfl hf
        | cons _ _ => simp
      cases hd : st.down
      · have hm : st.may (i : Int) = 0 := by
          unfold DSt.may
          rw [hd]
          simp
          omega
        have hw : st.write (i : Int) (f.take 64) = ((st.put i (pad64 (f.take 64))).changed, 0) := by
          unfold DSt.write
          rw [if_pos hm, if_neg (by rw [List.length_take]; omega), Int.toNat_natCast]
        have hc1 : (st.put i (pad64 (f.take 64))).changed.last = st.last := by unfold DSt.changed; split <;> rfl
        have hc2 : (st.put i (pad64 (f.take 64))).changed.waits = st.waits ++ [(i, pad64 (f.take 64))] := by unfold DSt.changed; split <;> rfl
        obtain ⟨m, h1, h2, h3⟩ := wrs_some n (st.put i (pad64 (f.take 64))).changed (i + 1) (f.drop 64) (by
          rw [hc1, List.length_drop]
          by_cases h64 : f.length ≤ 64
          · have : i < st.last.length := by omega
            omega
          · omega)
        rw [hw, if_pos rfl]
        refine ⟨m + 1, by rw [h1, hc1], by rw [h2, hc2, List.take_succ_cons]; simp, fun h => by rw [List.take_succ_cons, h3 h]⟩
      · have hw : st.write (i : Int) (f.take 64) = (st, 32) := by unfold DSt.write DSt.may; rw [hd]; rfl
        rw [hw, if_neg (show ¬ (32 : Int) = 0 by decide)]
        exact ⟨0, rfl, by simp, fun h => absurd h (show ¬ (32 : Int) = 0 by decide)⟩
theorem torn_part (d old : List UInt8) (t r : Nat) (h : d.take r = old.take r) (hd : d.length = 64) (ht : t ≤ 64) : (torn d old t).take r = old.take r := by
  unfold torn
  by_cases hr : r ≤ t
  · rw [List.take_append_of_le_length (by rw [List.length_take]; omega), List.take_take, Nat.min_eq_left hr, h]
  · rw [List.take_append, List.length_take, hd, Nat.min_eq_left ht, List.take_take, Nat.min_eq_right (by omega)]
    have e : d.take t = old.take t := by
      have := congrArg (List.take t) h
      rwa [List.take_take, List.take_take, Nat.min_eq_left (by omega)] at this
    rw [e, ← List.take_add]
    congr 1; omega
theorem torn_len (d old : List UInt8) (t : Nat) (hd : d.length = 64) (ho : old.length = 64) (ht : t ≤ 64) : (torn d old t).length = 64 := by
  unfold torn; rw [List.length_append, List.length_take, List.length_drop]; omega
/-- whatever the power does while a frame is laid behind -/
theorem Rest.power {st st1 : DSt} (h : Rest st) (hl : st1.last = st.last) (hw : st1.waits = []) (fr to en : Nat) (b : List UInt8) (hf : fr ≤ to ∧ to ≤ st.last.length) (hroom : en + b.length + 16 ≤ (to - fr) * 64) (k t : Int) :
    Rest ((st1.append fr en b).1.crash k t) ∧ ((st1.append fr en b).1.crash k t).last.length = st.last.length ∧ (flat ((st1.append fr en b).1.crash k t).last fr).take en = (flat st.last fr).take en ∧
      ((st1.append fr en b).2 = 0 → (flat ((st1.append fr en b).1.crash k t).last fr).take (en + b.length + 16) = (flat st.last fr).take en ++ frameL b) := by
  have hcalm : ∀ (w : List (List UInt8)), Calm { last := w, waits := [], armed := -1, down := false } := fun w => ⟨rfl, show (-1 : Int) < 0 by decide⟩
  have hc0 : ∀ (s : DSt), s.waits = [] → s.crash k t = { last := s.last, waits := [], armed := -1, down := false } := fun s hs => by
    unfold DSt.crash
    rw [DSt.crashed_none _ _ _ (by rw [hs]; simp)]
    unfold DSt.settle
    rw [hs]; simp [setAll]
  cases hd : st1.down
  case true =>
    rw [append_down hd, hc0 st1 hw, hl]
    exact ⟨⟨hcalm _, rfl, h.sec⟩, rfl, rfl, fun e => absurd e (show ¬ (32 : Int) = 0 by decide)⟩
  case false =>
    have hjl := jall_len st fr en b
    have hpart := h.part fr en (by omega)
    have hja : jall st1 fr en b = jall st fr en b := by
      unfold jall jpart DSt.read DSt.may
      rw [hd, hl, hw, h.calm.down, h.waits]
    have hpl : (jpart st fr en).length = en % 64 := by
      have := congrArg List.length hpart
      rw [List.length_append, List.length_take, List.length_take] at this
      have h2 : (flat st.last fr).length = 64 * (st.last.length - fr) := by
        unfold flat
        rw [flat_sum _ (fun s hs => h.sec s (List.mem_of_mem_drop hs)), List.length_drop]
      omega
    have hpj : (jall st fr en b).take (en % 64) = jpart st fr en := by
      unfold jall
      rw [List.take_append_of_le_length (by omega), List.take_of_length_le (by omega)]
    have hjp : jpart st fr en = (st.last.getD (fr + en / 64) []).take (en % 64) := by
      have h1 := flat_parts h.sec (fr := fr) (en := en) (by omega)
      rw [← hpart] at h1
      have h3 : (flat st.last fr).take (64 * (en / 64)) = ((st.last.take (fr + en / 64)).drop fr).flatten := by
        unfold flat
        rw [flat_take _ _ (fun s hs => h.sec s (List.mem_of_mem_drop hs)), List.drop_take, show fr + en / 64 - fr = en / 64 by omega]
      rw [h3] at h1
      exact List.append_cancel_left h1
    have hgood : ∀ x ∈ laidL ((jall st fr en b).length + 1) (fr + en / 64) (jall st fr en b), fr + en / 64 ≤ x.1 ∧ x.2.length = 64 ∧ (x.1 = fr + en / 64 → x.2.take (en % 64) = (st.last.getD (fr + en / 64) []).take (en % 64)) := fun x hx => by
      obtain ⟨h1, h2, h3⟩ := laid_mem _ _ _ x hx
      refine ⟨h1, h2, fun e => ?_⟩
      rw [h3 e, ← hjp, ← hpj]
      unfold pad64
      have hjn : en % 64 ≤ (jall st fr en b).length := by
        have := congrArg List.length hpj
        rw [List.length_take, hpl] at this; omega
      rw [List.take_append_of_le_length (by rw [List.length_take]; omega), List.take_take, Nat.min_eq_left (by omega)]
    obtain ⟨m, h1, h2, h3⟩ := wrs_some ((jall st fr en b).length + 1) st1 (fr + en / 64) (jall st fr en b) (by rw [hl]; omega)
    rw [hl] at h1
    rw [hw, List.nil_append] at h2
    generalize hL : laidL ((jall st fr en b).length + 1) (fr + en / 64) (jall st fr en b) = L at *
    -- what a crash of a disk that waits leaves
    have hcr : ∀ (s : DSt), s.last = st.last → s.waits = L.take m → Rest (s.crash k t) ∧ (s.crash k t).last.length = st.last.length ∧ (flat (s.crash k t).last fr).take en = (flat st.last fr).take en := fun s hs1 hs2 => by
      have ha : ∀ n, Alike fr en st.last (setAll st.last (s.waits.take n)) := fun n => Alike.setAll _ _ (.refl h.sec) (fun x hx => hgood x (by rw [hs2] at hx; exact List.mem_of_mem_take (List.mem_of_mem_take hx)))
      have hfin : ∃ l', s.crash k t = { last := l', waits := [], armed := -1, down := false } ∧ Alike fr en st.last l' := by
        unfold DSt.crash
        generalize clampN k s.waits.length = n
        have ht : clampN t 64 ≤ 64 := clamp_le t 64
        generalize clampN t 64 = t' at *
        cases hx : s.waits[n]? with
        | none =>
          refine ⟨_, DSt.crashed_none _ _ _ (by simpa using hx), ?_⟩
          unfold DSt.settle
          rw [hs1]
          exact ha n
        | some x =>
          refine ⟨_, DSt.crashed_some _ _ _ x hx, ?_⟩
          have hal := ha n
          have hxm : x ∈ L := by
            have := List.mem_of_getElem? hx
            rw [hs2] at this
            exact List.mem_of_mem_take this
          obtain ⟨g1, g2, g3⟩ := hgood x hxm
          show Alike fr en st.last ((s.settle n).last.set x.1 (torn x.2 ((s.settle n).last.getD x.1 []) t'))
          have e : (s.settle n).last = setAll st.last (s.waits.take n) := by unfold DSt.settle; rw [hs1]
          rw [e]
          generalize setAll st.last (s.waits.take n) = l' at *
          by_cases hlt : x.1 < l'.length
          · have ho : (l'.getD x.1 []).length = 64 := by rw [getD_at hlt]; exact hal.sec _ (List.getElem_mem _)
            refine hal.set g1 (torn_len _ _ _ g2 ho ht) (fun e => ?_)
            rw [← hal.part, ← e]
            exact torn_part _ _ _ _ (by rw [e, hal.part]; exact g3 e) g2 ht
          · rw [List.set_eq_of_length_le (by omega)]; exact hal
      obtain ⟨l', e, hal⟩ := hfin
      rw [e]
      exact ⟨⟨hcalm _, rfl, hal.sec⟩, hal.len, hal.flat h.sec (by omega)⟩
    obtain ⟨_, a2, a3, a4⟩ := h.appended fr to en b hf hroom
    have hac := append_calm h.calm fr to en b hf hroom
    rw [h.waits, List.nil_append, hL] at hac
    rw [hac] at a2 a3 a4
    unfold DSt.append
    rw [hja]
    by_cases hz : (wrs ((jall st fr en b).length + 1) st1 (fr + en / 64) (jall st fr en b)).2 = 0
    · rw [if_pos hz]
      have hall := h3 hz
      generalize (wrs ((jall st fr en b).length + 1) st1 (fr + en / 64) (jall st fr en b)).1 = s at *
      unfold DSt.flush
      cases hsd : s.down
      · simp only [Bool.false_eq_true, if_false]
        have hq1 : ({ s.settle s.waits.length with waits := [] } : DSt).changed.waits = [] := by unfold DSt.changed; split <;> rfl
        have hq2 : ({ s.settle s.waits.length with waits := [] } : DSt).changed.last = setAll st.last L := by
          have : ({ s.settle s.waits.length with waits := [] } : DSt).changed.last = (s.settle s.waits.length).last := by unfold DSt.changed; split <;> rfl
          rw [this]
          unfold DSt.settle
          rw [List.take_length, h1, h2, hall]
        rw [hc0 _ hq1, hq2]
        refine ⟨⟨hcalm _, rfl, a2.sec⟩, a3, ?_, fun _ => a4⟩
        exact (Alike.setAll _ _ (.refl h.sec) hgood).flat h.sec (by omega)
      · simp only [if_true]
        obtain ⟨c1, c2, c3⟩ := hcr s h1 h2
        exact ⟨c1, c2, c3, fun e => absurd e (show ¬ (32 : Int) = 0 by decide)⟩
    · rw [if_neg hz]
      obtain ⟨c1, c2, c3⟩ := hcr _ h1 h2
      exact ⟨c1, c2, c3, fun e => absurd e hz⟩
end Go.Proofs.Ytdhhpnfdnoaihaa

/-! T12 -/
/- What a disk holds of a store, and that a Commit keeps it. -/
namespace Go.Proofs.Ytdhhpnfdnoaihaa
open Go.RowKit

/-! the cell -/
def hN (t a b c : Nat) : Hf := ⟨t, a, b, c⟩
structure Small63 (t a b c : Nat) : Prop where
  t : t < 9223372036854775808
  a : a < 9223372036854775808
  b : b < 9223372036854775808
  c : c < 9223372036854775808
theorem num_at {n : Nat} (h : n < 9223372036854775808) : i64 (beN (be8 (n : Int))) = (n : Int) := by
  rw [be_back n (by omega), i64_small n h]
theorem half_back {t a b c : Nat} (h : Small63 t a b c) (j : Nat) (hj : j < 2) : halfOf ((hN t a b c).bytes ++ (hN t a b c).bytes) j = hN t a b c := by
  have k0 := num_at h.t
  have k1 := num_at h.a
  have k2 := num_at h.b
  have k3 := num_at h.c
  rcases (show j = 0 ∨ j = 1 by omega) with rfl | rfl
  · show (⟨i64 (beN (be8 (t : Int))), i64 (beN (be8 (a : Int))), i64 (beN (be8 (b : Int))), i64 (beN (be8 (c : Int)))⟩ : Hf) = _
    rw [k0, k1, k2, k3]; rfl
  · show (⟨i64 (beN (be8 (t : Int))), i64 (beN (be8 (a : Int))), i64 (beN (be8 (b : Int))), i64 (beN (be8 (c : Int)))⟩ : Hf) = _
    rw [k0, k1, k2, k3]; rfl
theorem whole_back {t a b c : Nat} (h : Small63 t a b c) (ht : 0 < t) : whole ((hN t a b c).bytes ++ (hN t a b c).bytes) = true := by
  unfold whole
  rw [half_back h 0 (by omega), half_back h 1 (by omega)]
  have : (0 : Int) < (hN t a b c).t := by show (0 : Int) < (t : Int); omega
  simp [this]
/-- the sectors of the cell -/
structure CellInv (st : DSt) (turn : Nat) (h : Hf) : Prop where
  none : turn = 0 → h = ⟨0, 0, 0, 0⟩ ∧ ∀ i, i < 2 → whole (sect st i) = false
  some : 0 < turn → whole (sect st ((turn + 1) % 2)) = true ∧ halfOf (sect st ((turn + 1) % 2)) 0 = h ∧ h.t = (turn : Int) ∧ (whole (sect st (turn % 2)) = true → (halfOf (sect st (turn % 2)) 0).t < (turn : Int))
theorem CellInv.reads {st : DSt} {turn : Nat} {h : Hf} (k : CellInv st turn h) : cellL st = h := by
  unfold cellL
  simp only [cellK]
  rcases Nat.eq_zero_or_pos turn with h0 | h0
  · obtain ⟨rfl, hw⟩ := k.none h0
    unfold pickH
    rw [hw 0 (by omega), hw 1 (by omega)]
    simp
  · obtain ⟨h1, h2, h3, h4⟩ := k.some h0
    rcases (show turn % 2 = 0 ∨ turn % 2 = 1 by omega) with hp | hp
    · rw [hp] at h4
      rw [show (turn + 1) % 2 = 1 by omega] at h1 h2
      unfold pickH
      by_cases hw : whole (sect st 0) = true ∧ (0 : Int) < (halfOf (sect st 0) 0).t
      · rw [if_pos (c := whole (sect st 0) = true ∧ (⟨0, 0, 0, 0⟩ : Hf).t < (halfOf (sect st 0) 0).t) hw, h2, if_pos ⟨h1, by rw [h3]; exact h4 hw.1⟩]
      · rw [if_neg (c := whole (sect st 0) = true ∧ (⟨0, 0, 0, 0⟩ : Hf).t < (halfOf (sect st 0) 0).t) hw, h2, if_pos ⟨h1, by rw [h3]; show (0 : Int) < _; omega⟩]
    · rw [hp] at h4
      rw [show (turn + 1) % 2 = 0 by omega] at h1 h2
      unfold pickH
      rw [h2, if_pos (c := whole (sect st 0) = true ∧ (⟨0, 0, 0, 0⟩ : Hf).t < h.t) ⟨h1, by rw [h3]; show (0 : Int) < _; omega⟩, if_neg]
      rintro ⟨hw, hlt⟩
      have := h4 hw
      rw [h3] at hlt; omega
theorem sect_same {st st' : DSt} {i : Nat} (h : st'.last.getD i [] = st.last.getD i []) : sect st' i = sect st i := h
theorem CellInv.same {st st' : DSt} {turn : Nat} {h : Hf} (k : CellInv st turn h) (hs : ∀ i, i < 2 → sect st' i = sect st i) : CellInv st' turn h :=
  ⟨fun h0 => ⟨(k.none h0).1, fun i hi => by rw [hs i hi]; exact (k.none h0).2 i hi⟩, fun h0 => by
    rw [hs _ (Nat.mod_lt _ (by omega)), hs _ (Nat.mod_lt _ (by omega))]; exact k.some h0⟩
theorem sect_cset {st : DSt} {i : Nat} {x : Hf} (hi : i < st.last.length) (j : Nat) : sect (st.cset i x) j = if j = i then x.bytes ++ x.bytes else sect st j := by
  unfold sect DSt.cset
  rw [List.getD_eq_getElem?_getD]
  by_cases e : j = i
  · subst e
    rw [if_pos rfl, List.getElem?_set_self hi]; rfl
  · rw [if_neg e, List.getElem?_set_ne (fun h => e h.symm), ← List.getD_eq_getElem?_getD]
theorem CellInv.set {st : DSt} {turn : Nat} {h : Hf} (k : CellInv st turn h) (h2 : 2 ≤ st.last.length) {a b c : Nat} (hx : Small63 (turn + 1) a b c) : CellInv (st.cset (turn % 2) (hN (turn + 1) a b c)) (turn + 1) (hN (turn + 1) a b c) := by
  have hi : turn % 2 < st.last.length := by omega
  refine ⟨fun h0 => by omega, fun _ => ?_⟩
  rw [show (turn + 1 + 1) % 2 = turn % 2 by omega, sect_cset hi, if_pos rfl, sect_cset hi, if_neg (by omega)]
  refine ⟨whole_back hx (by omega), half_back hx 0 (by omega), rfl, fun hw => ?_⟩
  rcases Nat.eq_zero_or_pos turn with h0 | h0
  · rw [(k.none h0).2 _ (Nat.mod_lt _ (by omega))] at hw; cases hw
  · obtain ⟨_, g2, g3, _⟩ := k.some h0
    rw [g2, g3]; omega
/-! the areas -/
theorem getD_setAll : ∀ (X : List (Nat × List UInt8)) (l : List (List UInt8)) (i : Nat), (∀ x ∈ X, i < x.1) → (setAll l X).getD i [] = l.getD i []
  | [], _, _, _ => rfl
  | x :: X, l, i, h => by
    show (setAll (l.set x.1 x.2) X).getD i [] = _
    rw [getD_setAll X _ i (fun y hy => h y (by simp [hy])), List.getD_eq_getElem?_getD, List.getElem?_set_ne (by have := h x (by simp); omega), ← List.getD_eq_getElem?_getD]
theorem append_sect {st : DSt} (h : Rest st) {fr to en : Nat} {b : List UInt8} (hf : fr ≤ to ∧ to ≤ st.last.length) (hroom : en + b.length + 16 ≤ (to - fr) * 64) {i : Nat} (hi : i < fr) : sect (st.append fr en b).1 i = sect st i := by
  have hac := append_calm h.calm fr to en b hf hroom
  rw [hac]
  refine sect_same ?_
  rw [h.waits, List.nil_append]
  refine getD_setAll _ _ _ (fun x hx => ?_)
  have := (laid_mem _ _ _ x hx).1
  omega
theorem flat_cset {st : DSt} {i : Nat} {x : Hf} {fr : Nat} (hi : i < fr) : flat (st.cset i x).last fr = flat st.last fr := by
  unfold flat DSt.cset
  rw [List.drop_set, if_pos hi]
/-- what the disk holds: the batches of the area in use -/
structure Held (σ : SSt) (bs : List (List Ch)) : Prop where
  cell : CellInv σ.st σ.turn σ.h
  data : (flat σ.st.last (fromN σ.st σ.area)).take σ.en = frames (bs.map encL)
  len : (frames (bs.map encL)).length = σ.en
  count : bs.length = σ.ct
  has : bs.foldl allL [] = σ.has
  kept : Kept σ.has
theorem held_new (n : Nat) (h : 2 ≤ n) : Held (SSt.new (DSt.new n)) [] :=
  ⟨⟨fun _ => ⟨rfl, fun i hi => by show whole (sect (DSt.new n) i) = false; rw [new_sect n i (by omega)]; exact zeros_whole⟩, fun h0 => absurd h0 (by show ¬ 0 < 0; omega)⟩, rfl, rfl, rfl, rfl, fun y hy => by cases hy⟩
theorem frames_len_snoc (l : List (List UInt8)) (b : List UInt8) : (frames (l ++ [b])).length = (frames l).length + b.length + 16 := by
  rw [frames_snoc, List.length_append, frameL_len]; omega
theorem doF_end {L : List Ch} {c : Ch} (h : ∀ y ∈ L, klt y.key c.key = true) : doF false L c = L ++ [c] := by
  induction L with
  | nil => rfl
  | cons x L ih =>
    have hx := h x (by simp)
    unfold doF
    rw [if_neg (klt_ne hx), if_neg (by simp [klt_asymm hx]), ih (fun y hy => h y (by simp [hy]))]; rfl
/-- all pairs, put into nothing -/
theorem all_self : ∀ (R L : List Ch), Rising (L ++ R) → Kept (L ++ R) → allL L R = L ++ R
  | [], L, _, _ => by simp [allL]
  | c :: R, L, hr, hk => by
    have e : doL L c = L ++ [c] := by
      have hg : c.gone = false := hk c (by simp)
      have hc : ({ c with gone := false } : Ch) = c := by cases c; simp_all
      unfold doL
      rw [hc, hg]
      refine doF_end (fun y hy => ?_)
      have := List.pairwise_append.1 hr
      exact this.2.2 y hy c (by simp)
    show allL (doL L c) R = _
    rw [e, all_self R (L ++ [c]) (by simpa using hr) (by simpa using hk)]
    simp
theorem small_of_ok {σ : SSt} {turn area en ct n : Nat} (hm : σ.st.last.length ≤ 65536) (ht : turn ≤ 2000000000) (ha : area ≤ 1) (hf : fits σ.st en n) (hct : 16 * ct ≤ en) : Small63 (turn + 1) area (en + n + 16) (ct + 1) := by
  have h2 := hf.2
  have h3 : halfN σ.st ≤ 32767 := by unfold halfN; omega
  exact ⟨by omega, by omega, by omega, by omega⟩
theorem Held.next {σ : SSt} {bs bs0 : List (List Ch)} (h : Held σ bs) (hok : σ.Ok) (ht : σ.turn ≤ 2000000000) {area en ct : Nat} {b has : List Ch} (ha : area ≤ 1) (hf : fits σ.st en (encL b).length) (hct : 16 * ct ≤ en)
    (hd : (flat σ.st.last (fromN σ.st area)).take en = frames (bs0.map encL)) (hl : (frames (bs0.map encL)).length = en) (hc : bs0.length = ct) (hh : (bs0 ++ [b]).foldl allL [] = has) (hk : Kept has) : Held (σ.next area en ct (encL b) has) (bs0 ++ [b]) := by
  obtain ⟨p1, p2, p3, p4⟩ := place_in hok.four ha
  have hroom : en + (encL b).length + 16 ≤ (toN σ.st area - fromN σ.st area) * 64 := by rw [p4]; have := hf.2; omega
  obtain ⟨q1, q2, q3, q4⟩ := hok.rest.appended (fromN σ.st area) (toN σ.st area) en (encL b) ⟨p1, p2⟩ hroom
  have h4 := hok.four
  have hfr : fromN (σ.next area en ct (encL b) has).st (σ.next area en ct (encL b) has).area = fromN σ.st area := by
    show fromN (((σ.st.append (fromN σ.st area) en (encL b)).1).cset _ _) area = _
    unfold fromN halfN
    rw [cset_len]
    unfold fromN at q3
    unfold halfN at q3
    rw [q3]
  refine ⟨?_, ?_, ?_, ?_, hh, hk⟩
  · have hs := small_of_ok (σ := σ) hok.most ht ha hf hct
    have k := CellInv.same h.cell (st' := (σ.st.append (fromN σ.st area) en (encL b)).1) (fun i hi => append_sect hok.rest ⟨p1, p2⟩ hroom (by omega))
    exact k.set (by rw [q3]; omega) hs
  · rw [hfr]
    show (flat (((σ.st.append (fromN σ.st area) en (encL b)).1).cset (σ.turn % 2) _).last (fromN σ.st area)).take (en + (encL b).length + 16) = _
    rw [flat_cset (by omega), q4, hd, List.map_append, List.map_cons, List.map_nil, frames_snoc]
  · rw [List.map_append, List.map_cons, List.map_nil, frames_len_snoc, hl]
    rfl
  · rw [List.length_append, hc]; rfl
theorem Held.commit {σ : SSt} {bs : List (List Ch)} (h : Held σ bs) (hok : σ.Ok) (ht : σ.turn ≤ 2000000000) (l : List Ch) : ∃ bs', Held (σ.commit l).1 bs' := by
  by_cases h1 : fits σ.st σ.en (encL l).length
  · rw [SSt.commit_fits h1]
    exact ⟨_, h.next hok ht hok.ar h1 hok.ct h.data h.len h.count (by rw [List.foldl_append, h.has]; rfl) (kept_all l hok.ris h.kept)⟩
  · by_cases h2 : fits σ.st 0 (encL (allL σ.has l)).length
    · rw [SSt.commit_turns h1 h2]
      refine ⟨[] ++ [allL σ.has l], h.next (bs0 := []) hok ht (by omega) h2 (by omega) (by simp [frames]) rfl rfl ?_ (kept_all l hok.ris h.kept)⟩
      have hk := kept_all l hok.ris h.kept
      have hr := rising_all l hok.ris
      have := all_self (allL σ.has l) [] (by simpa using hr) (by simpa using hk)
      simpa using this
    · rw [SSt.commit_full h1 h2]
      exact ⟨bs, h⟩
end Go.Proofs.Ytdhhpnfdnoaihaa

/-! T13 -/
/- octet.Reader where all can be read. -/
namespace Go.Proofs.Ytdhhpnfdnoaihaa
open Go.RowKit

def TakeN (r : Nat) (l : List UInt8) (k n : Nat) (w : World) (e : Ending) (w' : World) : Prop :=
  ∃ a c, e = .returned (.slice a n c) ∧ Rd w' a ((l.drop k).take n) ∧ Rdr w' r l ((k + n : Nat) : Int) false ∧ Mod (fun x => x = r) w w'
set_option maxRecDepth 100000 in
set_option maxHeartbeats 1600000 in
theorem takeN_any (w : World) (r : Nat) (l : List UInt8) (k n : Nat) (h : Rdr w r l k false) (hfit : k + n ≤ l.length) (hl : l.length ≤ 100000000) : Calls Try.prog 98 #[.pointer (some ⟨r, 0, none⟩), .int .i64 (n : Int)] w (TakeN r l k n w) := by
  obtain ⟨a, c, hb, ho⟩ := h
  have h0 : w.cell? ⟨r, 0, none⟩ = some (.slice a l.length c) := hb.is rfl
  have h1 : w.cell? ⟨r, 1, none⟩ = some (.int .i64 (k : Int)) := hb.is rfl
  have h2 : w.cell? ⟨r, 2, none⟩ = some (.bool false) := hb.is rfl
  have f1 := hb.free 1
  have f2 := hb.free 2
  have hcap := ho.cap
  have HB := hid hb
  have HO := hid ho
  have hw : IntKind.i64.wrap ((l.length : Int) - (k : Int)) = (l.length : Int) - (k : Int) := wrap_in _ (by omega)
  have hw2 : IntKind.i64.wrap ((k : Int) + (n : Int)) = (k : Int) + (n : Int) := wrap_in _ (by omega)
  have hn0 : ¬ (n : Int) < 0 := by omega
  have hf1 : ¬ ((l.length : Int) - (k : Int) < (n : Int)) := by omega
  have hk1 : (k : Int) + (n : Int) ≤ (c : Int) := by omega
  have hkn : ((k : Int) + (n : Int)).toNat = k + n := by omega
  have HFIT := hid hfit
  clear hb ho
  have key : ∀ (m : Nat) (a2 : Option Addr) (c2 : Nat), (n = 0 ∨ a2 = Option.map (fun x => x.add k) a) → TakeN r l k n w (.returned (.slice a2 n c2)) ((w.drewN m).setCell ⟨r, 1, none⟩ (.int .i64 ((k : Int) + (n : Int)))) := fun m a2 c2 ha2 => by
    have hm : Mod (fun x => x = r) w ((w.drewN m).setCell ⟨r, 1, none⟩ (.int .i64 ((k : Int) + (n : Int)))) := Mod.set (S := fun x => x = r) ((mod_drewN w m).mono (fun _ _ h => h.elim)) (.inl rfl) _
    have hown := HO.out.kept hm (fun g hg => Rdr.far HO.out HB.out g hg)
    obtain ⟨a', c', e, hrd⟩ := hown.rd
    obtain ⟨rfl, rfl⟩ : a = a' ∧ c = c' := by cases e; exact ⟨rfl, rfl⟩
    refine ⟨a2, c2, rfl, ?_, ⟨a, c, ?_, hown⟩, hm⟩
    · rcases ha2 with rfl | rfl
      · left; simp
      · have h := rd_if hrd (c := k) (by omega) (by omega) (vc := c) (by omega)
        by_cases hkc : k = c
        · left
          have : (l.drop k).take n = [] := List.eq_nil_of_length_eq_zero (by rw [List.length_take, List.length_drop]; omega)
          rw [this]; rfl
        · rw [if_neg (fun e => hkc e.symm)] at h
          exact rd_take h n
    · have h : Blk (w.drewN m) r 150 _ := HB.out
      rw [show (((k + n : Nat)) : Int) = (k : Int) + (n : Int) by omega]
      exact h.set 1 _
  have KEY := hid key
  clear key
  generalize hn : l.length = ln at *
  go_enter Try.func98, Try.ntmps98
  go_wp2
  go_quiet (fail)
  go_wp2
  go_quiet (fail)
  go_wp2
  · go_ret
    exact KEY.out _ _ _ (.inl (by omega))
  · go_ret
    exact KEY.out _ _ _ (.inr rfl)
/-- what stands at a place -/
theorem parts_at {l a b : List UInt8} {k : Nat} (h : l.drop k = a ++ b) : k + a.length + b.length = l.length ∨ (l.length < k ∧ a = [] ∧ b = []) := by
  have := congrArg List.length h
  rw [List.length_drop, List.length_append] at this
  by_cases hk : k ≤ l.length
  · left; omega
  · right
    refine ⟨by omega, List.eq_nil_of_length_eq_zero (by omega), List.eq_nil_of_length_eq_zero (by omega)⟩
theorem drop_next {l a b : List UInt8} {k : Nat} (h : l.drop k = a ++ b) : l.drop (k + a.length) = b := by
  rw [← List.drop_drop, h, List.drop_left]
def Reads (r : Nat) (l : List UInt8) (v : Value) (k : Nat) (w : World) (e : Ending) (w' : World) : Prop := e = .returned v ∧ Rdr w' r l (k : Int) false ∧ Mod (fun x => x = r) w w'
theorem intat_any {w : World} {r : Nat} {l rest : List UInt8} {k : Nat} (h : Rdr w r l k false) (hl : l.length ≤ 100000000) (n : Nat) (hn : n < 9223372036854775808) (hd : l.drop k = be8 (n : Int) ++ rest) : Calls Try.prog 77 #[.pointer (some ⟨r, 0, none⟩)] w (Reads r l (.int .i64 (n : Int)) (k + 8) w) := by
  have hle : k + 8 ≤ l.length := by
    rcases parts_at hd with h1 | ⟨_, h1, _⟩
    · rw [be8_len] at h1; omega
    · have := be8_len (n : Int); rw [h1] at this; cases this
  refine (int_any w r l k false h (by omega) hl).mono ?_
  rintro e w' ⟨hm, ⟨_, _, rfl, hR⟩ | ⟨hn', _⟩⟩
  · refine ⟨?_, hR, hm⟩
    rw [hd, List.take_left' (be8_len _), num_at hn]
  · exact absurd ⟨rfl, hle⟩ hn'
set_option maxRecDepth 100000 in
set_option maxHeartbeats 1600000 in
theorem textat_any {w : World} {r : Nat} {l rest s : List UInt8} {k : Nat} (h : Rdr w r l k false) (hl : l.length ≤ 100000000) (hd : l.drop k = be8 (s.length : Int) ++ (s ++ rest)) : Calls Try.prog 104 #[.pointer (some ⟨r, 0, none⟩)] w (Reads r l (Str s) (k + 8 + s.length) w) := by
  have hd2 := drop_next hd
  rw [be8_len] at hd2
  have hle : k + 8 + s.length ≤ l.length := by
    rcases parts_at hd with h1 | ⟨_, h1, _⟩
    · rw [be8_len, List.length_append] at h1; omega
    · have := be8_len (s.length : Int); rw [h1] at this; cases this
  have HI := hid (intat_any h hl s.length (by omega) hd)
  have HT := hid (fun (W : World) (hR : Rdr W r l ((k + 8 : Nat) : Int) false) => takeN_any W r l (k + 8) s.length hR hle hl)
  have HTK := hid (show (l.drop (k + 8)).take s.length = s by rw [hd2, List.take_left])
  clear h hd hd2 hle
  go_enter Try.func104, Try.ntmps104
  go_wp2_with fail
  refine HI.out.mono ?_
  rintro e w1 ⟨rfl, hR, hm⟩
  have HM := hid hm
  have HTT := hid (HT.out w1 hR)
  clear hR hm HT
  go_wp2_with fail
  refine HTT.out.mono ?_
  rintro e w2 ⟨a, c, rfl, hr, hR, hm⟩
  rw [HTK.out] at hr
  have hs := str_rd hr s.length c rfl
  have HR := hid hR
  have HM2 := hid (HM.out.trans hm)
  clear hr hR hm HTT
  unfold Str at hs
  go_wp2_with fail
  go_ret
  exact ⟨rfl, HR.out, HM2.out⟩
set_option maxRecDepth 100000 in
set_option maxHeartbeats 1600000 in
theorem boolat_any {w : World} {r : Nat} {l rest : List UInt8} {k : Nat} (h : Rdr w r l k false) (hl : l.length ≤ 100000000) (b : Bool) (hd : l.drop k = [if b then 1 else 0] ++ rest) : Calls Try.prog 105 #[.pointer (some ⟨r, 0, none⟩)] w (Reads r l (.bool b) (k + 1) w) := by
  have hle : k + 1 ≤ l.length := by
    rcases parts_at hd with h1 | ⟨_, h1, _⟩
    · rw [List.length_singleton] at h1; omega
    · cases h1
  have HT := hid (takeN_any w r l k 1 h hle hl)
  have HTK := hid (show (l.drop k).take 1 = [if b then 1 else 0] by rw [hd]; rfl)
  clear h hd hle
  go_enter Try.func105, Try.ntmps105
  go_wp2_with fail
  refine HT.out.mono ?_
  rintro e w2 ⟨a, c, rfl, hr, hR, hm⟩
  rw [HTK.out] at hr
  have HR := hid hR
  have HM2 := hid hm
  obtain ⟨bb, o, rfl, hc⟩ : ∃ bb o, a = some ⟨bb, o, none⟩ ∧ w2.cell? ⟨bb, o, none⟩ = some (.int .u8 (((if b then 1 else 0 : UInt8).toNat : Nat) : Int)) := by
    rcases hr with h | ⟨bb, o, rfl, hc⟩
    · simp at h
    · exact ⟨bb, o, rfl, by have := hc 0 (by simp); rw [Nat.add_zero] at this; rw [this]; rfl⟩
  clear hr hR hm HT
  cases b with
  | true =>
    have hc1 : w2.cell? ⟨bb, o, none⟩ = some (.int .u8 1) := hc
    clear hc
    go_wp2_with fail
    go_ret
    exact ⟨rfl, HR.out, HM2.out⟩
  | false =>
    have hc1 : w2.cell? ⟨bb, o, none⟩ = some (.int .u8 0) := hc
    clear hc
    go_wp2_with fail
    go_ret
    exact ⟨rfl, HR.out, HM2.out⟩
theorem imax9 : imax 9 1 = 9 := by decide
set_option maxRecDepth 100000 in
set_option maxHeartbeats 1600000 in
theorem countat_any {w : World} {r : Nat} {l rest : List UInt8} {k : Nat} (h : Rdr w r l k false) (hl : l.length ≤ 100000000) (n : Nat) (hd : l.drop k = be8 (n : Int) ++ rest) (h9 : 9 * n ≤ rest.length) : Calls Try.prog 103 #[.pointer (some ⟨r, 0, none⟩), .int .i64 9] w (Reads r l (.int .i64 (n : Int)) (k + 8) w) := by
  have hlen : k + 8 + rest.length = l.length := by
    rcases parts_at hd with h1 | ⟨_, h1, _⟩
    · rw [be8_len] at h1; exact h1
    · have := be8_len (n : Int); rw [h1] at this; cases this
  have HI := hid (intat_any h hl n (by omega) hd)
  clear h hd
  have hmax := imax9
  go_enter Try.func103, Try.ntmps103
  go_wp2_with fail
  refine HI.out.mono ?_
  rintro e w1 ⟨rfl, hR, hm⟩
  have HR := hid hR
  have HM := hid hm
  obtain ⟨ra, rc, hb, _⟩ := hR
  have r2 : w1.cell? ⟨r, 2, none⟩ = some (.bool false) := hb.is rfl
  have HLF := hid (rleft_any HR.out (by omega) hl)
  have hn0 : ¬ (n : Int) < 0 := by omega
  clear hm hb HI
  go_wp2_with fail
  refine HLF.out.mono ?_
  rintro e w2 ⟨rfl, m, rfl⟩
  go_wp2_with fail
  go_ret
  exact ⟨rfl, HR.out.keep (mod_drewN w1 m) (fun _ h => h), HM.out.trans ((mod_drewN w1 m).mono (fun _ _ h => h.elim))⟩
set_option maxRecDepth 100000 in
theorem done_any {w : World} {r : Nat} {l : List UInt8} {k : Nat} (h : Rdr w r l k false) (hk : k = l.length) : Calls Try.prog 106 #[.pointer (some ⟨r, 0, none⟩)] w fun e w' => e = .returned (.bool true) ∧ ∃ n, w' = w.drewN n := by
  obtain ⟨a, c, hb, _⟩ := h
  have h0 : w.cell? ⟨r, 0, none⟩ = some (.slice a l.length c) := hb.is rfl
  have h1 : w.cell? ⟨r, 1, none⟩ = some (.int .i64 (k : Int)) := hb.is rfl
  have h2 : w.cell? ⟨r, 2, none⟩ = some (.bool false) := hb.is rfl
  rw [← hk] at h0
  clear hb hk
  go_enter Try.func106, Try.ntmps106
  go_wp2
  go_quiet (fail)
  go_wp2
  go_ret
  exact ⟨rfl, _, rfl⟩
end Go.Proofs.Ytdhhpnfdnoaihaa

/-! T14 -/
/- The store's decode, of what encode told. -/
namespace Go.Proofs.Ytdhhpnfdnoaihaa
open Go.RowKit

/-- what is read of a change: one that is gone has no value -/
def normC (c : Ch) : Ch := if c.gone then { c with val := [] } else c
theorem doF_norm : ∀ (l : List Ch) (c d : Ch), c.key = d.key → doF true l c = doF true l d
  | [], _, _, _ => rfl
  | x :: l, c, d, h => by
    unfold doF
    rw [h, doF_norm l c d h]
    simp
theorem doL_norm (l : List Ch) (c : Ch) : doL l (normC c) = doL l c := by
  unfold doL normC
  cases hg : c.gone with
  | true =>
    simp only [if_true]
    exact doF_norm l _ _ rfl
  | false =>
    simp only [Bool.false_eq_true, if_false]
    rw [hg]
theorem allL_norm : ∀ (b l : List Ch), allL l (b.map normC) = allL l b
  | [], _ => rfl
  | c :: b, l => by
    show allL (doL l (normC c)) (b.map normC) = allL (doL l c) b
    rw [doL_norm]; exact allL_norm b _
def posL (l : List Ch) (k : Nat) : Nat := 8 + ((l.take k).flatMap encC).length
theorem posL_succ {l : List Ch} {k : Nat} (h : k < l.length) : posL l (k + 1) = posL l k + (encC (nth l k)).length := by
  unfold posL
  rw [flat_succ h, List.length_append]; omega
theorem posL_all (l : List Ch) : posL l l.length = (encL l).length := by
  unfold posL encL
  rw [List.take_length, List.length_append, be8_len]
theorem drop_pos {l : List Ch} {k : Nat} (h : k < l.length) : (encL l).drop (posL l k) = encC (nth l k) ++ (l.drop (k + 1)).flatMap encC := by
  have e : l = l.take k ++ nth l k :: l.drop (k + 1) := by
    rw [nth_at h, ← List.drop_eq_getElem_cons h, List.take_append_drop]
  have e2 : encL l = (be8 (l.length : Int) ++ (l.take k).flatMap encC) ++ (encC (nth l k) ++ (l.drop (k + 1)).flatMap encC) := by
    have e4 : l.flatMap encC = (l.take k ++ nth l k :: l.drop (k + 1)).flatMap encC := congrArg (List.flatMap encC) e
    rw [List.flatMap_append, List.flatMap_cons] at e4
    unfold encL
    rw [List.append_assoc, ← e4]
  have e3 : posL l k = (be8 (l.length : Int) ++ (l.take k).flatMap encC).length := by
    unfold posL; rw [List.length_append, be8_len]
  rw [e2, e3, List.drop_left]
theorem encC_nine (c : Ch) : 9 ≤ (encC c).length := by rw [encC]; simp [be8_len]; omega
theorem flat_nine : ∀ l : List Ch, 9 * l.length ≤ (l.flatMap encC).length
  | [] => by simp
  | c :: l => by
    have h1 := encC_nine c
    have h2 := flat_nine l
    rw [List.flatMap_cons, List.length_append, List.length_cons]; omega
section
variable {w w1 w2 : World} {r n : Nat} {l : List UInt8} {at' : Int} {bad : Bool} {v : Value} {xs : List Value} {L : List Ch}
theorem Rdr.keepRow (h : Rdr w r l at' bad) (hm : Mod (fun k => v.ownBlock = some k) w w2) (hrow : w.ownsRow 0 89 3 v n xs) : Rdr w2 r l at' bad := by
  obtain ⟨a, c, hb, ho⟩ := h
  refine ⟨a, c, hm.blk hb (fun hg => ?_), ho.kept hm (fun g hg hv => ?_)⟩
  · obtain ⟨cs, hb'⟩ := row_blk hrow hg
    exact absurd (hb.uniq hb').1 (by decide)
  · obtain ⟨cs, hb'⟩ := row_blk hrow hv
    exact OwnR.far (S := fun _ => True) ⟨ho, fun _ _ => trivial⟩ hb' (by decide) g hg rfl
/-- the reader goes on: the row stays -/
theorem CRow.keepR (h : CRow 89 w w1 v L) (hR : Rdr w1 r l at' bad) (hm : Mod (fun x => x = r) w1 w2) (hr : w.heap.size ≤ r) : CRow 89 w w2 v L := by
  obtain ⟨a, c, hb, _⟩ := hR
  refine ⟨row_kept h.own hm (fun g hg e => ?_), h.mod.then hm (fun k hk e => by omega), h.new⟩
  subst e
  obtain ⟨cs, hb'⟩ := row_blk h.own hg
  exact absurd (hb.uniq hb').1 (by decide)
end
section
variable {w w1 : World} {r q i : Nat} {l : List UInt8} {at' : Int} {bad : Bool} {v u : Value} {L : List Ch}
theorem CRow.setQ (h : CRow 89 w w1 v L) (hv : ∀ g, v.ownBlock = some g → g ≠ q) (hq : w.heap.size ≤ q) : CRow 89 w (w1.setCell ⟨q, i, none⟩ u) v L := by
  have hm : Mod (fun k => k = q) w1 (w1.setCell ⟨q, i, none⟩ u) := Mod.set (S := fun k => k = q) (Mod.refl _ _) (.inl rfl) _
  exact ⟨row_kept h.own hm (fun g hg e => hv g hg e), h.mod.then hm (fun k hk e => by omega), h.new⟩
theorem Rdr.setQ {cs : List Value} (h : Rdr w1 r l at' bad) (hq : Blk w1 q 89 cs) : Rdr (w1.setCell ⟨q, i, none⟩ u) r l at' bad := by
  have hm : Mod (fun k => k = q) w1 (w1.setCell ⟨q, i, none⟩ u) := Mod.set (S := fun k => k = q) (Mod.refl _ _) (.inl rfl) _
  obtain ⟨a, c, hb, ho⟩ := h
  exact ⟨a, c, hm.blk hb (hb.types hq (by decide)), ho.kept hm (fun g hg e => OwnR.far (S := fun _ => True) ⟨ho, fun _ _ => trivial⟩ hq (by decide) g hg e)⟩
end
theorem src_two (w4 : World) (x : Ch) (o : Obj := .cells #[Str x.key, Str x.val, .bool x.gone] 89) : RdV ((w4.alloc o).alloc (.cells #[Str x.key, Str x.val, .bool x.gone] 89)) (some ⟨w4.heap.size + 1, 0, none⟩) (chC x) := by
  have := one_src (w4.alloc o) 89 x
  rw [show (w4.alloc o).heap.size = w4.heap.size + 1 by simp] at this
  exact this
theorem src_set (w6 : World) (p : Addr) (u : Value) (x : Ch) : RdV ((w6.setCell p u).alloc (.cells #[Str x.key, Str x.val, .bool x.gone] 89)) (some ⟨w6.heap.size, 0, none⟩) (chC x) := by
  have := one_src (w6.setCell p u) 89 x
  rw [show (w6.setCell p u).heap.size = w6.heap.size by simp] at this
  exact this
def DecR (l : List Ch) (w : World) (e : Ending) (w' : World) : Prop := ∃ a c, e = .returned (.tuple #[.slice a l.length c, .bool true]) ∧ CRow 89 w w' (.slice a l.length c) (l.map normC)
set_option maxRecDepth 100000 in
set_option maxHeartbeats 3200000 in
theorem decode_any (w : World) (a : Option Addr) (n c : Nat) (l : List Ch) (hn : n = (encL l).length) (hr : Rd w a (encL l)) (hb : n ≤ 100000000) : Calls Try.prog 87 #[.slice a n c] w (DecR l w) := by
  subst hn
  have HN := hid (readnew_any w a c (encL l) hr hb)
  have HP := hid (fun k (h : k < l.length) => drop_pos h)
  have HPS := hid (fun k (h : k < l.length) => posL_succ h)
  have HPA := hid (posL_all l)
  have h9 := flat_nine l
  have hll : l.length ≤ 100000000 := by
    have := len_wt l
    have : (encL l).length = 8 + (l.flatMap encC).length := by unfold encL; rw [List.length_append, be8_len]
    omega
  have HD0 := hid (show (encL l).drop 0 = be8 ((l.length : Nat) : Int) ++ l.flatMap encC from rfl)
  have HP0 := hid (show posL l 0 = 8 from rfl)
  generalize encL l = E at *
  clear hr
  obtain ⟨it, hit, hz, hsz, hby⟩ := info_parts s_info89
  have HIX := hid (And.intro hit (And.intro hz (And.intro hsz hby)))
  clear hit hz hsz hby
  go_enter Try.func87, Try.ntmps87
  go_wp2_with fail
  refine HN.out.mono ?_
  rintro e w1 ⟨r, rfl, hR, hrn, hm⟩
  have HR0 := hid hR
  have HRN := hid hrn
  have HM1 := hid hm
  have HCT := hid (countat_any (k := 0) hR hb l.length HD0.out h9)
  clear hR hrn hm HN
  go_wp2_with fail
  refine HCT.out.mono ?_
  rintro e w2 ⟨rfl, hR, hm⟩
  have HR2 := hid hR
  have HC2 := hid (show CRow 89 w w2 (.slice none 0 0) [] from (((CRow.nil 89 w).keep HM1.out).keepR HR0.out hm HRN.out))
  clear hR hm HCT HR0 HM1
  go_wp2_with fail
  go_loopw [5, 11] (fun v i wr => ∃ (k : Nat) (va : Option Addr) (vc : Nat), k ≤ l.length ∧ i = .int .i64 k ∧ v = .slice va k vc ∧ Hid (CRow 89 w wr (.slice va k vc) ((l.take k).map normC)) ∧ Hid (Rdr wr r E ((posL l k : Nat) : Int) false)) (fun _ i _ => l.length - (intOf i).toNat)
  case atStart => exact ⟨0, none, 0, by omega, rfl, rfl, by rw [List.take_zero]; exact HC2.out, by rw [HP0.out]; exact HR2.out⟩
  case round =>
    obtain ⟨k, va, vc, hk, rfl, rfl, h1, hR⟩ := hrel
    clear HC2 HR2
    by_cases hlt : k < l.length
    · have hlt' : (k : Int) < (l.length : Int) := by omega
      have HDP := hid (HP.out k hlt)
      have HPN := hid (HPS.out k hlt)
      have HTS := hid (show (l.take (k + 1)).map normC = (l.take k).map normC ++ [normC (nth l k)] by rw [take_succ_ch hlt, List.map_append]; rfl)
      have HTL := hid (show ((l.take k).map normC).length = k by rw [List.length_map]; exact take_len_ch (by omega))
      have HEC := hid (show encC (nth l k) = be8 (nth l k).key.length ++ (nth l k).key ++ [if (nth l k).gone then 1 else 0] ++ (if (nth l k).gone then [] else be8 (nth l k).val.length ++ (nth l k).val) from rfl)
      have HNC := hid (show normC (nth l k) = if (nth l k).gone then { (nth l k) with val := [] } else nth l k from rfl)
      generalize nth l k = x at *
      generalize (l.take k).map normC = L at *
      generalize (l.drop (k + 1)).flatMap encC = rest at *
      generalize posL l k = P at *
      have HT1 := hid (textat_any (rest := [if x.gone then 1 else 0] ++ ((if x.gone then [] else be8 x.val.length ++ x.val) ++ rest)) (s := x.key) hR.out hb (by rw [HDP.out, HEC.out]; simp))
      go_wp2_with fail
      refine HT1.out.mono ?_
      rintro e w3 ⟨rfl, hR3, hm3⟩
      have HC3 := hid (h1.out.keepR hR.out hm3 HRN.out)
      have HR3 := hid hR3
      have HB1 := hid (boolat_any (b := x.gone) (rest := (if x.gone then [] else be8 x.val.length ++ x.val) ++ rest) hR3 hb (by
        rw [Nat.add_assoc, ← List.drop_drop, HDP.out, HEC.out]
        rw [show 8 + x.key.length = (be8 (x.key.length : Int) ++ x.key).length by rw [List.length_append, be8_len]]
        simp only [List.append_assoc]
        rw [← List.append_assoc (be8 _) x.key, List.drop_left]))
      clear hR3 hm3 HT1
      go_wp2_with fail
      refine HB1.out.mono ?_
      rintro e w4 ⟨rfl, hR4, hm4⟩
      have HC4 := hid (HC3.out.keepR HR3.out hm4 HRN.out)
      have HR4 := hid hR4
      clear hR4 hm4 HB1 HC3 HR3
      unfold Str
      cases hg : x.gone with
      | true =>
        rw [hg, if_pos rfl] at HNC
        rw [hg] at HEC
        have HPK := hid (show posL l (k + 1) = P + 8 + x.key.length + 1 by rw [HPN.out, HEC.out]; simp [be8_len]; omega)
        have HSRC := hid (src_two w4 ⟨x.key, [], true⟩)
        go_wp2_with (at_builtin; first | (refine wpList_plain rfl (fun K hK => wp_append_R (.tmp 24) (.tmp 26) 79 rfl 89 it chZ 3 40 s_und79 HIX.out.1 HIX.out.2.1 HIX.out.2.2.1 HIX.out.2.2.2 rfl (by decide) _ _ _ rfl (HC4.out.own_at HTL.out ((Mod.refl None w4).alloc _) _) _ 1 1 (chC ⟨x.key, [], true⟩) rfl rfl HSRC.out (ch_ones _) (by unfold maxLen; omega) (by omega) (fun vx vxc w5 g2 g3 g4 => hK _ _ ?_)); have HC5 := hid (HC4.out.snoc_at HTL.out ((Mod.refl None w4).alloc _) g2.out g3.out g4.out); have HR5 := hid ((HR4.out.keep (T := None) (((Mod.refl None w4).alloc _).alloc _) (fun _ h => h)).keepRow g3.out (HC4.out.own_at HTL.out ((Mod.refl None w4).alloc _) _)); clear g2 g3 g4))
        go_roundw
        case rel => exact ⟨k + 1, vx, vxc, by omega, by go_num, rfl, by rw [HTS.out, HNC.out]; exact HC5.out, by rw [HPK.out]; exact HR5.out⟩
        case measure => simp [intOf]; omega
      | false =>
        rw [hg, if_neg (by simp)] at HNC
        rw [hg] at HEC
        have HPK := hid (show posL l (k + 1) = P + 8 + x.key.length + 1 + 8 + x.val.length by rw [HPN.out, HEC.out]; simp [be8_len]; omega)
        have HRA := hid (HR4.out.keep (T := None) ((Mod.refl None w4).alloc (.cells #[.string { data := x.key.toArray }, .string { data := #[] }, .bool false] 89)) (fun _ h => h))
        have HQ := hid (show Blk (w4.alloc (.cells #[.string { data := x.key.toArray }, .string { data := #[] }, .bool false] 89)) w4.heap.size 89 [.string { data := x.key.toArray }, .string { data := #[] }, .bool false] from Blk.new w4 89 _)
        have HCA := hid (HC4.out.keep ((Mod.refl None w4).alloc (.cells #[.string { data := x.key.toArray }, .string { data := #[] }, .bool false] 89)))
        have HVQ := hid (show ∀ g, (Value.slice va k vc).ownBlock = some g → g ≠ w4.heap.size from fun g hg e => by
          obtain ⟨cs, hb'⟩ := row_blk HC4.out.own hg
          have := hb'.lt; omega)
        have HQN := hid HC4.out.mod.size
        have HT2 := hid (textat_any (rest := rest) (s := x.val) HRA.out hb (by
          have e1 : encC x ++ rest = (be8 (x.key.length : Int) ++ x.key ++ [0]) ++ (be8 (x.val.length : Int) ++ (x.val ++ rest)) := by rw [HEC.out]; simp
          rw [show P + 8 + x.key.length + 1 = P + (be8 (x.key.length : Int) ++ x.key ++ [0]).length by simp [be8_len]; omega, ← List.drop_drop, HDP.out, e1, List.drop_left]))
        go_wp2_with fail
        clear HR4 HC4
        generalize w4.alloc (.cells #[.string { data := x.key.toArray }, .string { data := #[] }, .bool false] 89) = w5 at *
        generalize w4.heap.size = q at *
        unfold Str at HT2
        refine HT2.out.mono ?_
        rintro e w6 ⟨rfl, hR6, hm6⟩
        have hqr : q ≠ r := fun e => by
          subst e
          obtain ⟨_, _, hb', _⟩ := HRA.out
          exact absurd (hb'.uniq HQ.out).1 (by decide)
        have HQ6 := hid (hm6.blk HQ.out hqr)
        have HC6 := hid (HCA.out.keepR HRA.out hm6 HRN.out)
        have HR6 := hid hR6
        have HST := hid (fun u => HC6.out.setQ (q := q) (u := u) (i := 1) HVQ.out HQN.out)
        have HSR := hid (fun u => HR6.out.setQ (q := q) (u := u) (i := 1) HQ6.out)
        have q0 : w6.cell? ⟨q, 0, none⟩ = some (.string { data := x.key.toArray }) := HQ6.out.is rfl
        have q1 : w6.cell? ⟨q, 1, none⟩ = some (.string { data := #[] }) := HQ6.out.is rfl
        have q2 : w6.cell? ⟨q, 2, none⟩ = some (.bool false) := HQ6.out.is rfl
        have qf := HQ6.out.free
        clear hR6 hm6 HT2 HRA HCA HQ HC6 HR6 HQ6
        have HCX := hid (HST.out (.string { data := x.val.toArray }))
        have HRX := hid (HSR.out (.string { data := x.val.toArray }))
        have HSRC := hid (src_set w6 ⟨q, 1, none⟩ (.string { data := x.val.toArray }) ⟨x.key, x.val, false⟩)
        clear HST HSR HVQ HQN
        go_wp2_with (at_builtin; first | (refine wpList_plain rfl (fun K hK => wp_append_R (.tmp 24) (.tmp 26) 79 rfl 89 it chZ 3 40 s_und79 HIX.out.1 HIX.out.2.1 HIX.out.2.2.1 HIX.out.2.2.2 rfl (by decide) _ _ _ rfl (HCX.out.own_at HTL.out (Mod.refl None _) _) _ 1 1 (chC ⟨x.key, x.val, false⟩) rfl rfl HSRC.out (ch_ones _) (by unfold maxLen; omega) (by omega) (fun vx vxc w7 g2 g3 g4 => hK _ _ ?_)); have HC7 := hid (HCX.out.snoc_at HTL.out (Mod.refl None _) g2.out g3.out g4.out); have HR7 := hid ((HRX.out.keep (T := None) ((Mod.refl None _).alloc _) (fun _ h => h)).keepRow g3.out (HCX.out.own_at HTL.out (Mod.refl None _) _)); clear g2 g3 g4))
        go_roundw
        case rel => exact ⟨k + 1, vx, vxc, by omega, by go_num, rfl, by rw [HTS.out, HNC.out]; have hx : (⟨x.key, x.val, false⟩ : Ch) = x := (by cases x; simp_all); rw [← hx]; exact HC7.out, by rw [HPK.out]; exact HR7.out⟩
        case measure => simp [intOf]; omega
    · obtain rfl : k = l.length := by omega
      have hlt' : ¬ (l.length : Int) < (l.length : Int) := by omega
      have HE := hid (show (l.take l.length).map normC = l.map normC by rw [List.take_length])
      rw [HE.out] at h1
      have HDN := hid (done_any hR.out HPA.out)
      go_wp2_with fail
      refine HDN.out.mono ?_
      rintro e w5 ⟨rfl, m, rfl⟩
      go_wp2_with fail
      go_ret2
      exact ⟨va, vc, rfl, h1.out.keep (mod_drewN wr m)⟩
end Go.Proofs.Ytdhhpnfdnoaihaa

/-! T15 -/
/- A store that is there is opened. -/
namespace Go.Proofs.Ytdhhpnfdnoaihaa
open Go.RowKit

def lenSum (bs : List (List Ch)) : Nat := (bs.map List.length).sum
theorem lenSum_cons (b : List Ch) (bs : List (List Ch)) : lenSum (b :: bs) = b.length + lenSum bs := by simp [lenSum]
theorem rising_fold : ∀ (bs : List (List Ch)) {l : List Ch}, Rising l → Rising (bs.foldl allL l)
  | [], _, h => h
  | b :: bs, _, h => rising_fold bs (rising_all b h)
theorem fold_len : ∀ (bs : List (List Ch)) {l : List Ch}, Rising l → (bs.foldl allL l).length ≤ l.length + lenSum bs
  | [], l, _ => by show l.length ≤ _; omega
  | b :: bs, l, h => by
    have h1 := fold_len bs (rising_all b h)
    have h2 := all_len b h
    rw [lenSum_cons]
    show (bs.foldl allL (allL l b)).length ≤ _
    omega
theorem enc_ge (b : List Ch) : 9 * b.length ≤ (encL b).length := by
  have := flat_nine b
  unfold encL
  rw [List.length_append]; omega
theorem frames_cons (b : List UInt8) (l : List (List UInt8)) : frames (b :: l) = frameL b ++ frames l := by simp [frames]
theorem frames_ge : ∀ bs : List (List Ch), 9 * lenSum bs ≤ (frames (bs.map encL)).length
  | [] => by simp [lenSum]
  | b :: bs => by
    have h1 := frames_ge bs
    have h2 := enc_ge b
    rw [List.map_cons, frames_cons, List.length_append, frameL_len, lenSum_cons]; omega
theorem frames_mem : ∀ (ls : List (List UInt8)) (b : List UInt8), b ∈ ls → b.length ≤ (frames ls).length
  | [], _, h => by cases h
  | x :: ls, b, h => by
    rw [frames_cons, List.length_append, frameL_len]
    rcases List.mem_cons.1 h with rfl | h
    · omega
    · have := frames_mem ls b h; omega
def bat (bs : List (List Ch)) (k : Nat) : List Ch := bs.getD k []
theorem bat_at {bs : List (List Ch)} {k : Nat} (h : k < bs.length) : bat bs k = bs[k] := by
  unfold bat; rw [List.getD_eq_getElem?_getD, List.getElem?_eq_getElem h]; rfl
theorem take_bat {bs : List (List Ch)} {k : Nat} (h : k < bs.length) : bs.take (k + 1) = bs.take k ++ [bat bs k] := by
  rw [List.take_add_one, List.getElem?_eq_getElem h, bat_at h]; rfl
theorem lenSum_take {bs : List (List Ch)} {k : Nat} (h : k < bs.length) : lenSum (bs.take k) + (bat bs k).length ≤ lenSum bs := by
  have e : lenSum (bs.take (k + 1)) + lenSum (bs.drop (k + 1)) = lenSum bs := by
    unfold lenSum
    rw [← List.sum_append, ← List.map_append, List.take_append_drop]
  rw [take_bat h] at e
  unfold lenSum at *
  rw [List.map_append, List.sum_append] at e
  simp only [List.map_cons, List.map_nil, List.sum_cons, List.sum_nil] at e
  omega
theorem fold_succ {bs : List (List Ch)} {k : Nat} (h : k < bs.length) : (bs.take (k + 1)).foldl allL [] = allL ((bs.take k).foldl allL []) ((bat bs k).map normC) := by
  rw [take_bat h, List.foldl_append, allL_norm]; rfl
/-- .. and behind all -/
theorem sopen_done {w0 w wb : World} {S : Nat → Prop} {s p c j : Nat} {v : Value} {σ : SSt} (hl : Live w0 w S p σ.st) (hm : Mod None w wb) (hobj : Blk wb s 132 [.pointer (some ⟨p, 0, none⟩), .pointer (some ⟨c, 0, none⟩), .pointer (some ⟨j, 0, none⟩), .int .i64 (σ.area : Int), v])
    (hc : IsCell wb c p 0 σ.h) (hj : IsJ wb j p (fromN σ.st σ.area) (toN σ.st σ.area) σ.en σ.ct) (hs0 : w.heap.size ≤ s) (hc0 : w.heap.size ≤ c) (hj0 : w.heap.size ≤ j) (hok : σ.Ok) (hv : CRow 89 w wb v σ.has) :
    SOpen w0 w S p σ (.returned (.tuple #[.pointer (some ⟨s, 0, none⟩), .int .i64 0])) wb := by
  have hno : ∀ k, w.heap.size ≤ k → ¬ S k := fun k hk hs => by have := hl.lt k hs; omega
  have h0 := hl.2.1.size
  exact ⟨s, c, j, v, rfl, {
    live := hl.step hm
    obj := hobj
    cell := hc
    log := hj
    row := hv.own
    sS := hno s hs0
    cS := hno c hc0
    jS := hno j hj0
    vS := fun g hg => hno g (hv.new g hg)
    s0 := by omega
    c0 := by omega
    j0 := by omega
    v0 := fun g hg => Nat.le_trans h0 (hv.new g hg)
    ok := hok }, hm, hs0, hc0, hj0, hv.new⟩
/-- a frame that was read -/
theorem LRow.cell {w wr : World} {base s : Nat} {va : Option Addr} {vc n : Nat} {ls : List (List UInt8)} {cs : List Value} (h : LRow w base (.slice va n vc) ls) (hm : Mod (fun x => x = s) w wr) (hs : Blk w s 132 cs) {k : Nat} (hk : k < ls.length) :
    ∃ g a c, va = some ⟨g, 0, none⟩ ∧ wr.cell? ⟨g, k, none⟩ = some (.slice a ls[k].length c) ∧ Rd wr a ls[k] := by
  obtain ⟨vs, h1, h2⟩ := h
  obtain ⟨a, c, he, ho⟩ := h2 k hk
  have hn := h1.1
  have hkv : k < vs.length := by
    rcases Nat.lt_or_ge k vs.length with h | h
    · exact h
    · rw [List.getElem?_eq_none h] at he; cases he
  have hpos : 0 < ls.length := by omega
  obtain ⟨g, cap, rest, e, _, hb, _⟩ := OwnR.open1 (S := fun _ => True) ⟨row_base h1 (Nat.zero_le _), fun _ _ => trivial⟩ hpos
  injection e with e1 e2 e3
  refine ⟨g, a, c, e1, ?_, ?_⟩
  · have hbr := hm.blk hb (hb.types hs (by decide))
    refine hbr.is ?_
    rw [List.getElem?_append_left hkv]; exact he
  · have hor := ho.kept hm (fun q hq e => OwnR.far (S := fun _ => True) ⟨ho.base (Nat.zero_le _), fun _ _ => trivial⟩ hs (by decide) q hq e)
    obtain ⟨a', c', e', hr⟩ := hor.rd
    obtain ⟨rfl, rfl⟩ : a = a' ∧ c = c' := by injection e' with e1 e2 e3; exact ⟨e1, e3⟩
    exact hr
end Go.Proofs.Ytdhhpnfdnoaihaa

/-! T16 -/
/- The walk of Open over a store that is there. -/
namespace Go.Proofs.Ytdhhpnfdnoaihaa
open Go.RowKit

theorem area_frames {σ : SSt} {bs : List (List Ch)} (hok : σ.Ok) (hH : Held σ bs) : jopen (Proofs.Ytdhhpnfdnoaihaa.area σ.st (fromN σ.st σ.area) σ.en) σ.ct = some (bs.map encL) := by
  obtain ⟨p1, p2, p3, p4⟩ := place_in hok.four hok.ar
  have he := hok.en
  rw [hok.rest.area (fromN σ.st σ.area) σ.en (by omega), hH.data, ← hH.count]
  have hm := hok.most
  have hh : halfN σ.st ≤ 32767 := by unfold halfN; omega
  have := open_frames (bs.map encL) (fun b hb => by have := frames_mem _ b hb; have := hH.len; omega)
  rw [List.length_map] at this
  exact this
/-- the rounds over the frames -/
def openRound (w w5 wr : World) (s p c j : Nat) (ar : Int) (hv : Value) (L : List Ch) : Prop :=
  Blk wr s 132 [.pointer (some ⟨p, 0, none⟩), .pointer (some ⟨c, 0, none⟩), .pointer (some ⟨j, 0, none⟩), .int .i64 ar, hv] ∧ CRow 89 w wr hv L ∧ Mod (fun x => x = s) w5 wr
theorem openRound.next {w w5 wr w2 w3 : World} {s p c j : Nat} {ar : Int} {hv v2 v3 : Value} {L L2 L3 : List Ch} (h : openRound w w5 wr s p c j ar hv L) (hs : w.heap.size ≤ s) (h2 : CRow 89 wr w2 v2 L2) (h3 : ChRow w2 w3 v3 L3) : openRound w w5 (w3.setCell ⟨s, 4, none⟩ v3) s p c j ar v3 L3 := by
  have hm3 : Mod None wr w3 := h2.mod.trans h3.mod
  have hst : Mod (fun k => k = s) w3 (w3.setCell ⟨s, 4, none⟩ v3) := Mod.set (S := fun k => k = s) (Mod.refl _ _) (.inl rfl) _
  have hb3 := hm3.blk h.1 (fun h => h)
  refine ⟨hb3.set 4 _, ⟨row_kept h3.own hst (fun g hg e => ?_), (h.2.1.mod.trans hm3).then hst (fun k hk e => by omega), fun g hg => ?_⟩, (h.2.2.trans (hm3.mono (fun _ _ h => h.elim))).trans hst⟩
  · subst e
    obtain ⟨cs, hb⟩ := row_blk h3.own hg
    exact absurd (hb.uniq hb3).1 (by decide)
  · have := h3.new g hg
    have h4 := h.2.1.mod.size
    have h5 := h2.mod.size
    omega
set_option maxRecDepth 100000 in
set_option maxHeartbeats 3200000 in
theorem sopen_held (w0 w : World) (S : Nat → Prop) (p : Nat) (σ : SSt) (bs : List (List Ch)) (h : Live w0 w S p σ.st) (hok : σ.Ok) (hH : Held σ bs) :
    Calls Try.prog 50 #[.pointer (some ⟨p, 0, none⟩)] w (SOpen w0 w S p σ) := by
  have HL := hid h
  have HS := hid (live_size h)
  have HOK := hid hok
  have HC := hid (copen_any w0 w S p σ.st h hok.rest (by have := hok.four; omega))
  rw [hH.cell.reads] at HC
  have hmost := h.ok.most
  have h4 := hok.four
  have hn4 : ¬ (σ.st.last.length : Int) < 4 := by omega
  have har := hok.ar
  have HJO := hid (area_frames hok hH)
  have hen := hok.en
  have hhh : halfN σ.st ≤ 32767 := by unfold halfN; omega
  have HBS := hid (show 9 * lenSum bs ≤ σ.en by have := frames_ge bs; rw [hH.len] at this; exact this)
  have HLEN := hid hH.len
  have HHAS := hid hH.has
  have HCN0 := hid hH.count
  have hbl : bs.length ≤ 2097152 := by have := hok.ct; have := hH.count; omega
  have HH := hid (show σ.h = ⟨(σ.turn : Int), (σ.area : Int), (σ.en : Int), (σ.ct : Int)⟩ from rfl)
  clear h hok hH
  go_enter Try.func50, Try.ntmps50
  go_wp2_with fail
  refine HS.out.mono ?_
  rintro e w1 ⟨rfl, rfl⟩
  go_wp2_with fail
  refine HC.out.mono ?_
  rintro e w1 ⟨c, rfl, hic, hcn, hm1⟩
  have HIC := hid hic
  have HCN := hid hcn
  have HM1 := hid hm1
  clear hic hcn hm1 HC
  go_wp2_with fail
  refine (cget_any w1 c p 0 _ HIC.out).mono ?_
  rintro e w2 ⟨rfl, hm2⟩
  have HM2 := hid (HM1.out.trans hm2)
  have HIC2 := hid (show IsCell w2 c p 0 σ.h from hm2.blk HIC.out (fun h => h))
  clear hm2 HIC HM1
  rw [HH.out]
  unfold V3
  dsimp only
  have HPL := hid (fun (W : World) (hm : Mod None w W) => place_any (HL.out.step hm) h4 σ.area har)
  have HJ := hid (fun (W : World) (hm : Mod None w W) => open_any w0 W S p σ.st (HL.out.step hm) (fromN σ.st σ.area) (toN σ.st σ.area) σ.en σ.ct ⟨(place_in h4 har).1, (place_in h4 har).2.1⟩ (by rw [(place_in h4 har).2.2.2]; exact hen) HOK.out.rest.calm.down)
  rw [HJO.out] at HJ
  have HEND := hid (fun (wb : World) (s j : Nat) (v : Value) => sopen_done (w0 := w0) (w := w) (wb := wb) (S := S) (s := s) (p := p) (c := c) (j := j) (v := v) (σ := σ) HL.out)
  have HST := hid (show σ.st = σ.st from rfl)
  generalize fromN σ.st σ.area = fr at *
  generalize toN σ.st σ.area = to' at *
  have hcase : (σ.area : Int) = 0 ∨ (σ.area : Int) = 1 := by omega
  have HARE := hid (show ((σ.area : Nat) : Int) = (σ.area : Int) from rfl)
  have hW0 : Blk ((w2.alloc (.cells #[.int .i64 σ.area, .int .i64 σ.en, .int .i64 σ.ct] 129)).alloc (.cells #[.pointer (some ⟨p, 0, none⟩), .pointer (some ⟨c, 0, none⟩), .pointer none, .int .i64 σ.area, .slice none 0 0] 132)) w2.heap.size 129 [.int .i64 σ.area, .int .i64 σ.en, .int .i64 σ.ct] := (Blk.new w2 129 _).alloc _
  have hW1 : Blk ((w2.alloc (.cells #[.int .i64 σ.area, .int .i64 σ.en, .int .i64 σ.ct] 129)).alloc (.cells #[.pointer (some ⟨p, 0, none⟩), .pointer (some ⟨c, 0, none⟩), .pointer none, .int .i64 σ.area, .slice none 0 0] 132)) (w2.heap.size + 1) 132 [.pointer (some ⟨p, 0, none⟩), .pointer (some ⟨c, 0, none⟩), .pointer none, .int .i64 σ.area, .slice none 0 0] := by
    have := Blk.new (w2.alloc (.cells #[.int .i64 σ.area, .int .i64 σ.en, .int .i64 σ.ct] 129)) 132 #[.pointer (some ⟨p, 0, none⟩), .pointer (some ⟨c, 0, none⟩), .pointer none, .int .i64 σ.area, .slice none 0 0]
    rw [show (w2.alloc (.cells #[.int .i64 σ.area, .int .i64 σ.en, .int .i64 σ.ct] 129)).heap.size = w2.heap.size + 1 by simp] at this
    exact this
  have hWM : Mod None w2 ((w2.alloc (.cells #[.int .i64 σ.area, .int .i64 σ.en, .int .i64 σ.ct] 129)).alloc (.cells #[.pointer (some ⟨p, 0, none⟩), .pointer (some ⟨c, 0, none⟩), .pointer none, .int .i64 σ.area, .slice none 0 0] 132)) := ((Mod.refl None w2).alloc _).alloc _
  generalize hArI : (σ.area : Int) = arI at *
  have HARI := hid hArI
  have hcases : (arI != 0) = false ∨ ((arI != 0) = true ∧ (arI != 1) = false) := by
    rcases hcase with h | h
    · left; rw [h]; rfl
    · right; rw [h]; exact ⟨rfl, rfl⟩
  clear hcase hArI har
  rcases hcases with hA0' | ⟨hA0', hA1'⟩
  all_goals
    have HV := hid hW0
    have HO := hid hW1
    have HMW := hid (HM2.out.trans hWM)
    have HIC3 := hid (hWM.blk HIC2.out (fun h => h))
    have HSN := hid (show w.heap.size ≤ w2.heap.size + 1 from Nat.le_trans HM2.out.size (Nat.le_succ _))
    go_wp2_with fail
    generalize (w2.alloc (.cells #[.int .i64 arI, .int .i64 σ.en, .int .i64 σ.ct] 129)).alloc (.cells #[.pointer (some ⟨p, 0, none⟩), .pointer (some ⟨c, 0, none⟩), .pointer none, .int .i64 arI, .slice none 0 0] 132) = W at *
    have HPLW := hid (HPL.out W HMW.out)
    have HJW := hid (HJ.out W HMW.out)
    clear hW0 hW1 hWM HIC2 HM2 HPL HJ hA0'
    generalize w2.heap.size + 1 = s at *
    generalize w2.heap.size = vb at *
    refine HPLW.out.mono ?_
    rintro e w3 ⟨rfl, rfl⟩
    have u1 : W.cell? ⟨vb, 1, none⟩ = some (.int .i64 (σ.en : Int)) := HV.out.is rfl
    have u2 : W.cell? ⟨vb, 2, none⟩ = some (.int .i64 (σ.ct : Int)) := HV.out.is rfl
    go_wp2_with fail
    refine HJW.out.mono ?_
    rintro e w5 ⟨hm5, ⟨ls, j, v, hls, rfl, hj5, hn5, hrow⟩ | ⟨h, _⟩⟩
    rotate_left
    · cases h
    obtain rfl : ls = bs.map encL := by cases hls; rfl
    obtain ⟨va, vc, rfl⟩ := hrow.shape
    have HO5 := hid (hm5.blk HO.out (fun h => h))
    have HIC5 := hid (hm5.blk HIC3.out (fun h => h))
    have HM5 := hid (HMW.out.trans hm5)
    have HJ5 := hid hj5
    have HJN := hid (Nat.le_trans HMW.out.size hn5)
    have HRW5 := hid hrow
    clear hm5 hj5 hn5 hrow u1 u2 HO HIC3 HV HPLW HJW hls
    rw [List.length_map]
    have o2 : w5.cell? ⟨s, 2, none⟩ = some (.pointer none) := HO5.out.is rfl
    have of := HO5.out.free
    have HST5 := hid (show Mod (fun x => x = s) w5 (w5.setCell ⟨s, 2, none⟩ (.pointer (some ⟨j, 0, none⟩))) from Mod.set (S := fun k => k = s) (Mod.refl _ _) (.inl rfl) _)
    have HR0 := hid (show openRound w w5 (w5.setCell ⟨s, 2, none⟩ (.pointer (some ⟨j, 0, none⟩))) s p c j arI (.slice none 0 0) ((bs.take 0).foldl allL []) from
      ⟨HO5.out.set 2 _, ⟨by rw [List.take_zero]; exact World.ownsRow_nil _ _ _ _, HM5.out.set (.inr HSN.out) _, fun g hg => by cases hg⟩, HST5.out⟩)
    generalize hnb : bs.length = nb at *
    have HNB := hid hnb
    clear hnb
    go_wp2_with fail
    go_loopw [73] (fun vi wr => ∃ (k : Nat) (ha : Option Addr) (hc : Nat), k ≤ nb ∧ vi = .int .i64 k ∧ Hid (openRound w w5 wr s p c j arI (.slice ha ((bs.take k).foldl allL []).length hc) ((bs.take k).foldl allL []))) (fun vi _ => nb - (intOf vi).toNat)
    case atStart => exact ⟨0, none, 0, by omega, rfl, by have := HR0.out; rw [List.take_zero] at *; exact this⟩
    case round =>
      obtain ⟨k, ha, hc, hk, rfl, hr⟩ := hrel
      clear HR0
      by_cases hlt : k < nb
      · have hlt' : (k : Int) < (nb : Int) := by omega
        have hkb : k < bs.length := by have := HNB.out; omega
        obtain ⟨r1, r2, r3⟩ := hr.out
        have HFR := hid (fold_succ hkb)
        have HFL := hid (show ((bs.take k).foldl allL []).length + (bat bs k).length ≤ 900000 by
          have h1 := fold_len (bs.take k) (l := []) List.Pairwise.nil
          have h2 := lenSum_take hkb
          have := HBS.out
          simp at h1; omega)
        have HRI := hid (rising_fold (bs.take k) (l := []) List.Pairwise.nil)
        have HEL := hid (show (encL (bat bs k)).length ≤ 100000000 by
          have h1 := frames_mem (bs.map encL) (encL (bat bs k)) (by rw [bat_at hkb]; exact List.mem_map_of_mem (List.getElem_mem _))
          have := HLEN.out
          omega)
        obtain ⟨g, fa, fc, rfl, hcell, hrd⟩ := HRW5.out.cell r3 HO5.out (k := k) (by rw [List.length_map]; exact hkb)
        have e0 : (bs.map encL)[k]'(by rw [List.length_map]; exact hkb) = encL (bat bs k) := by rw [List.getElem_map, bat_at hkb]
        rw [e0] at hcell hrd
        obtain ⟨ra, rc, re, hrv⟩ := r2.shape
        obtain ⟨rfl, rfl⟩ : ha = ra ∧ hc = rc := by injection re with e1 e2 e3; exact ⟨e1, e3⟩
        have HRV := hid hrv
        have HOR := hid hr.out
        have HDEC := hid (decode_any wr fa (encL (bat bs k)).length fc (bat bs k) rfl hrd HEL.out)
        have k4 : wr.cell? ⟨s, 4, none⟩ = some (.slice ha ((bs.take k).foldl allL []).length hc) := r1.is rfl
        have kf := r1.free
        have HB1 := hid r1
        clear r1 r2 r3 re hrv hrd e0 hr
        generalize (bs.take k).foldl allL [] = L at *
        generalize bat bs k = B at *
        go_wp2_with fail
        refine HDEC.out.mono ?_
        rintro e w6 ⟨da, dc, rfl, hd6⟩
        have HD6 := hid hd6
        obtain ⟨ra, rc, re, hrb⟩ := hd6.shape
        rw [List.length_map] at re
        obtain ⟨rfl, rfl⟩ : da = ra ∧ dc = rc := by injection re with e1 e2 e3; exact ⟨e1, e3⟩
        have HAP := hid (apply_any w6 ha L.length hc L rfl (hd6.mod.rdv HRV.out (fun _ _ h => h)) HRI.out da B.length dc (B.map normC) (by rw [List.length_map]) hrb (by rw [List.length_map]; exact HFL.out))
        have k5 := hd6.mod.cell0 k4
        have HB6 := hid (hd6.mod.blk HB1.out (fun h => h))
        clear hd6 re hrb HDEC k4 hcell
        go_wp2_with fail
        refine HAP.out.mono ?_
        rintro e w7 ⟨a7, c7, rfl, h7⟩
        have HN7 := hid (HOR.out.next HSN.out HD6.out h7)
        have HB7 := hid (h7.mod.blk HB6.out (fun h => h))
        have m4 : w7.cell? ⟨s, 4, none⟩ = some (.slice ha L.length hc) := HB7.out.is rfl
        have mf := HB7.out.free
        clear h7 HAP k5 kf
        go_wp2_with fail
        go_roundw
        case rel => exact ⟨k + 1, a7, c7, by omega, by go_num, by rw [HFR.out]; exact HN7.out⟩
        case measure => simp [intOf]; omega
      · obtain rfl : k = nb := by omega
        have hlt' : ¬ (k : Int) < (k : Int) := by omega
        have HE := hid (show (bs.take k).foldl allL [] = σ.has by rw [← HNB.out, List.take_length]; exact HHAS.out)
        rw [HE.out] at hr
        obtain ⟨r1, r2, r3⟩ := hr.out
        have h1 := HEND.out wr s j _ r2.mod r1 (r3.blk HIC5.out (fun e => HO5.out.types HIC5.out (by decide) e.symm)) (r3.blk HJ5.out (fun e => HO5.out.types HJ5.out (by decide) e.symm)) HSN.out HCN.out HJN.out HOK.out r2
        have HF := hid h1
        clear r1 r2 r3 h1
        go_wp2_with fail
        go_ret2
        exact HF.out
end Go.Proofs.Ytdhhpnfdnoaihaa

/-! T17 -/
/- The plain law of a crash, and of what has no room. -/
namespace Go.Proofs.Ytdhhpnfdnoaihaa
open Go.RowKit

theorem crash_rest {st : DSt} (h : Rest st) : st.crash 0 0 = { last := st.last, waits := [], armed := -1, down := false } := by
  unfold DSt.crash
  have e : clampN 0 st.waits.length = 0 := by unfold clampN; omega
  rw [e, DSt.crashed_none _ _ _ (by rw [h.waits]; simp)]
  rfl
theorem rest_crash {st : DSt} (h : Rest st) : Rest (st.crash 0 0) := by
  rw [crash_rest h]
  exact ⟨⟨rfl, by show (-1 : Int) < 0; decide⟩, rfl, h.sec⟩
theorem last_crash {st : DSt} (h : Rest st) : (st.crash 0 0).last = st.last := by rw [crash_rest h]
/-- the store behind a crash -/
def SSt.crashed (σ : SSt) : SSt := { σ with st := σ.st.crash 0 0 }
theorem crashed_ok {σ : SSt} (h : σ.Ok) : σ.crashed.Ok := by
  have e := last_crash h.rest
  refine ⟨rest_crash h.rest, ?_, ?_, h.ar, ?_, h.ct, h.ris⟩
  · show 4 ≤ (σ.st.crash 0 0).last.length; rw [e]; exact h.four
  · show (σ.st.crash 0 0).last.length ≤ _; rw [e]; exact h.most
  · show σ.en ≤ 64 * halfN (σ.st.crash 0 0); unfold halfN; rw [e]; exact h.en
theorem crashed_held {σ : SSt} {bs : List (List Ch)} (h : σ.Ok) (hH : Held σ bs) : Held σ.crashed bs := by
  have e := last_crash h.rest
  have e2 : fromN (σ.st.crash 0 0) σ.area = fromN σ.st σ.area := by unfold fromN halfN; rw [e]
  refine ⟨hH.cell.same (fun i _ => sect_same (by show (σ.st.crash 0 0).last.getD i [] = _; rw [e])), ?_, hH.len, hH.count, hH.has, hH.kept⟩
  show (flat (σ.st.crash 0 0).last (fromN (σ.st.crash 0 0) σ.area)).take σ.en = _
  rw [e, e2]; exact hH.data
theorem mem_doF {c : Ch} : ∀ l : List Ch, c ∈ doF false l c
  | [] => by simp [doF]
  | x :: l => by
    unfold doF
    by_cases h1 : x.key = c.key
    · rw [if_pos h1]; exact mem_doF l
    · rw [if_neg h1]
      by_cases h2 : (!false && klt c.key x.key) = true
      · rw [if_pos h2]; simp
      · rw [if_neg h2]; exact List.mem_cons_of_mem _ (mem_doF l)
theorem enc_mem {c : Ch} {l : List Ch} (h : c ∈ l) (hg : c.gone = false) : c.val.length ≤ (encL l).length := by
  have h1 : (encC c).length ≤ (l.flatMap encC).length := by
    induction l with
    | nil => cases h
    | cons x l ih =>
      rw [List.flatMap_cons, List.length_append]
      rcases List.mem_cons.1 h with rfl | h
      · omega
      · have := ih h; omega
  have h2 : c.val.length ≤ (encC c).length := by unfold encC; rw [hg]; simp [be8_len]; omega
  unfold encL
  rw [List.length_append]; omega
/-- what is put fits -/
theorem put_fits {σ : SSt} {k v : List UInt8} (h : (σ.commit [⟨k, v, false⟩]).2 = 0) : v.length ≤ 64 * halfN σ.st := by
  rcases σ.commit_says [⟨k, v, false⟩] with ⟨_, _⟩ | ⟨h51, _⟩
  · by_cases h1 : fits σ.st σ.en (encL [⟨k, v, false⟩]).length
    · have := enc_mem (c := ⟨k, v, false⟩) (l := [⟨k, v, false⟩]) (by simp) rfl
      have := h1.2
      dsimp only at *
      omega
    · by_cases h2 : fits σ.st 0 (encL (allL σ.has [⟨k, v, false⟩])).length
      · have hm : (⟨k, v, false⟩ : Ch) ∈ allL σ.has [⟨k, v, false⟩] := mem_doF σ.has
        have := enc_mem hm rfl
        have := h2.2
        dsimp only at *
        omega
      · rw [SSt.commit_full h1 h2] at h
        cases h
  · rw [h51] at h; cases h
theorem commit_turn (σ : SSt) (l : List Ch) : (σ.commit l).1.turn ≤ σ.turn + 1 := by
  by_cases h1 : fits σ.st σ.en (encL l).length
  · rw [SSt.commit_fits h1]; exact Nat.le_refl _
  · by_cases h2 : fits σ.st 0 (encL (allL σ.has l)).length
    · rw [SSt.commit_turns h1 h2]; exact Nat.le_refl _
    · rw [SSt.commit_full h1 h2]; exact Nat.le_succ _
theorem commit_few {σ : SSt} (h : σ.has = []) (l : List Ch) : (σ.commit l).1.has.length ≤ l.length ∧ sumC (σ.commit l).1.has ≤ sumC l := by
  rcases σ.commit_says l with ⟨_, h2⟩ | ⟨_, h2, _⟩
  · rw [h2, h]
    have h3 := all_len l (l := []) List.Pairwise.nil
    have h4 := sum_allL l []
    have e : sumC [] = 0 := rfl
    simp at h3
    exact ⟨h3, by omega⟩
  · rw [h2, h]
    exact ⟨Nat.zero_le _, by show 0 ≤ _; omega⟩
/-- a row that the store does not hold -/
def Was (w : World) (T : Nat → Prop) (a : Option Addr) (l : List Ch) : Prop := RdV w a (rowC l) ∧ (rowC l = [] ∨ ∃ b o, a = some ⟨b, o, none⟩ ∧ b < w.heap.size ∧ ¬ T b)
theorem Was.turn {w w' : World} {T T' : Nat → Prop} {a : Option Addr} {l : List Ch} (h : Was w T a l) (t : Turn T T' w w') : Was w' T' a l := by
  obtain ⟨h1, h2 | ⟨b, o, rfl, hb, hT⟩⟩ := h
  · exact ⟨.inl h2, .inl h2⟩
  · exact ⟨t.mod.rdv h1 (fun x e => by cases e; exact hT), .inr ⟨b, o, rfl, Nat.lt_of_lt_of_le hb t.mod.size, not_after t hb hT⟩⟩
theorem Was.step {w w' : World} {T : Nat → Prop} {a : Option Addr} {l : List Ch} (h : Was w T a l) (hm : Mod None w w') : Was w' T a l := by
  obtain ⟨h1, h2⟩ := h
  exact ⟨hm.rdv h1 (fun _ _ h => h), h2.imp id (fun ⟨b, o, e, hb, hT⟩ => ⟨b, o, e, Nat.lt_of_lt_of_le hb hm.size, hT⟩)⟩
theorem Was.mono {w : World} {T T' : Nat → Prop} {a : Option Addr} {l : List Ch} (h : Was w T a l) (hT : ∀ k, T' k → T k) : Was w T' a l :=
  ⟨h.1, h.2.imp id (fun ⟨b, o, e, hb, hn⟩ => ⟨b, o, e, hb, fun h => hn (hT b h)⟩)⟩
theorem Was.of {w wr : World} {T : Nat → Prop} {a : Option Addr} {n c : Nat} {l : List Ch} (h : CRow 86 w wr (.slice a n c) l) (hn : n = l.length) (hT : ∀ k, T k → k < w.heap.size) : Was wr T a l := by
  subst hn
  by_cases h0 : 0 < l.length
  · obtain ⟨g, cap, rest, e, _, hb, _⟩ := OwnR.open1 (S := fun _ => True) ⟨h.own, fun _ _ => trivial⟩ h0
    obtain ⟨rfl, _⟩ : a = some ⟨g, 0, none⟩ ∧ c = cap := by simpa using e
    have hg := h.new g rfl
    obtain ⟨a', c', e', hr⟩ := h.shape
    injection e' with e1 e2 e3
    subst e1
    exact ⟨hr, .inr ⟨g, 0, rfl, hb.lt, fun ht => by have := hT g ht; omega⟩⟩
  · have : l = [] := List.eq_nil_of_length_eq_zero (by omega)
    subst this
    exact ⟨.inl rfl, .inl rfl⟩
theorem IsStore.lt {w0 w : World} {T : Nat → Prop} {s p : Nat} {σ : SSt} (h : IsStore w0 w T s p σ) : ∀ k, T k → k < w.heap.size := by
  obtain ⟨S, c, j, v, _, _, h2⟩ := h; exact fun k hk => (h2 k hk).1
end Go.Proofs.Ytdhhpnfdnoaihaa

/-! T18 -/
/- The walk of StoreFull. -/
namespace Go.Proofs.Ytdhhpnfdnoaihaa
open Go.RowKit

set_option maxRecDepth 100000 in
set_option maxHeartbeats 3200000 in
theorem StoreFull_walk (w : World) (a0 : Int) (w0 : (Lit.int .u8 a0).wf = true) (v1 : Value) (l : List Ch) (w1 : VChs w v1 l ∧ wtL l ≤ 6000000) (sz : Int) (_ : (Lit.int .i64 sz).wf = true) :
    Calls Try.prog 19 #[.int .u8 a0, v1, .int .i64 sz] w fun e w' => e = .returned (.bool true) ∧ Below w.heap.size w w' := by
  have hb : 0 ≤ a0 ∧ a0 ≤ 255 := by simpa [Lit.wf, IntKind.min, IntKind.max, IntKind.signed, IntKind.bits] using w0
  clear w0
  obtain ⟨sN, rfl⟩ : ∃ sN : Nat, a0 = (sN : Int) := ⟨a0.toNat, by omega⟩
  obtain ⟨⟨a, cap, rfl, hrd, hwt⟩, hw6⟩ := w1
  have HW6 := hid hw6
  clear hw6
  have HRD := hid hrd
  have HWT := hid hwt
  clear hrd hwt
  obtain ⟨N, hN⟩ : ∃ N, N = 4 + sN % 12 := ⟨_, rfl⟩
  have hN4 : 4 ≤ N ∧ N ≤ 15 := by omega
  have hNI : (4 : Int) + (sN : Int) % 12 = (N : Int) := by omega
  clear hN
  go_enter Try.func19, Try.ntmps19
  go_wp2_with fail
  refine (live_new w w (Mod.refl _ _) (N : Int) N (by omega)).mono ?_
  rintro e w1 ⟨p, S, rfl, hl, _, _⟩
  have HL := hid hl
  clear hl
  go_wp2_with fail
  refine (is_open HL.out hN4.1 (by omega)).mono ?_
  rintro e w2 ⟨s, T, rfl, hs, _⟩
  have HS := hid hs
  clear hs HL
  go_wp2_with fail
  refine (awake6_any w2).mono ?_
  rintro e w3 ⟨rfl, hm3⟩
  have HS3 := hid (HS.out.step hm3)
  clear hm3 HS
  have HAW := hid (fun (W : World) (hm : Mod None w W) => (awake6_any W).mono fun e w' (h : e = .returned (.bool true) ∧ Mod None W w') => And.intro h.1 (hm.trans h.2))
  by_cases hs0 : sz < 0
  · go_wp2_with fail
    refine (HAW.out w3 HS3.out.mod).mono ?_
    rintro e w4 ⟨rfl, hm4⟩
    have HM4 := hid hm4
    clear hm4
    go_wp2_with fail
    go_ret
    exact ⟨rfl, HM4.out.below _ (Nat.le_refl _) (fun _ h => h.elim)⟩
  by_cases hs5 : 5000 < sz
  · go_wp2_with fail
    refine (HAW.out w3 HS3.out.mod).mono ?_
    rintro e w4 ⟨rfl, hm4⟩
    have HM4 := hid hm4
    clear hm4
    go_wp2_with fail
    go_ret
    exact ⟨rfl, HM4.out.below _ (Nat.le_refl _) (fun _ h => h.elim)⟩
  go_wp2_with fail
  refine (few_any w3 a l.length cap).mono ?_
  rintro e w4 ⟨rfl, rfl⟩
  by_cases h3 : l.length ≤ 300
  · rw [decide_eq_true h3]
    clear HAW
    obtain ⟨zn, rfl⟩ : ∃ zn : Nat, sz = (zn : Int) := ⟨sz.toNat, by omega⟩
    go_wp2_with fail
    refine (batch_any w3 a l.length cap l rfl (HS3.out.mod.rdv HRD.out (fun _ _ h => h)) (by omega)).mono ?_
    rintro e w4 ⟨ba, bc, rfl, hb4⟩
    have HS4 := hid (HS3.out.step hb4.mod)
    obtain ⟨ra, rc, re, hrd4⟩ := hb4.shape
    obtain ⟨rfl, rfl⟩ : ba = ra ∧ bc = rc := by injection re with e1 e2 e3; exact ⟨e1, e3⟩
    have HC := hid (is_commit HS4.out (by show (0 : Nat) ≤ _; omega) l ba l.length bc rfl hrd4 (by show 0 + l.length ≤ _; omega) HWT.out (Nat.le_trans (wt_all l) HWT.out))
    clear hb4 re hrd4
    have HSAY := hid ((SSt.new (DSt.new N)).commit_says l)
    have HHELD := hid ((held_new N (by omega)).commit (SSt.new_ok N hN4.1 (by omega)) (by show (0 : Nat) ≤ _; omega) l)
    have HOK := hid (SSt.commit_ok (SSt.new_ok N hN4.1 (by omega)) l)
    have HFEW := hid (show ((SSt.new (DSt.new N)).commit l).1.has.length ≤ 300 ∧ sumC ((SSt.new (DSt.new N)).commit l).1.has ≤ 6000000 ∧ ((SSt.new (DSt.new N)).commit l).1.turn ≤ 1 by
      obtain ⟨h1, h2⟩ := commit_few (σ := SSt.new (DSt.new N)) rfl l
      have h3 := commit_turn (SSt.new (DSt.new N)) l
      have h4 := HW6.out
      rw [wtL_sum] at h4
      exact ⟨by omega, by omega, h3⟩)
    generalize hr : (SSt.new (DSt.new N)).commit l = r at *
    clear hr
    go_wp2_with fail
    refine HC.out.mono ?_
    rintro e w5 ⟨T5, rfl, hs5, _⟩
    have HS5 := hid hs5
    clear hs5 HC HS4 HS3
    have HHAL := hid (show halfN r.1.st ≤ N by
      have := HOK.out.2
      have h2 : (SSt.new (DSt.new N)).st.last.length = N := new_len N
      unfold halfN; omega)
    generalize r.2 = code at *
    generalize r.1 = σ at *
    have HP := hid (pairs_any HS5.out (by have := HFEW.out.1; omega))
    go_wp2_with fail
    refine HP.out.mono ?_
    rintro e w6 ⟨wa, wc, rfl, hw6⟩
    have HWAS := hid (Was.of hw6 rfl HS5.out.lt)
    have HS6 := hid (HS5.out.step hw6.mod)
    clear hw6 HP HS5 HSAY
    obtain ⟨w7, hmk, hz7, hm7⟩ := zeros_at w6 zn (by omega)
    have hcv := str_rd hz7 zn zn (by rw [List.length_replicate])
    have HS7 := hid (HS6.out.step hm7)
    have HW7 := hid (HWAS.out.step hm7)
    have HZL := hid (show (List.replicate zn (0 : UInt8)).length = zn from List.length_replicate)
    clear hz7 hm7 HS6 HWAS
    generalize List.replicate zn (0 : UInt8) = zs at *
    generalize w6.heap.size = q6 at *
    unfold Str at hcv
    go_wp2_with fail
    have HC2 := hid (is_commit (HS7.out.step ((Mod.refl None w7).alloc (.cells #[.string { data := #[122, 122] }, .string { data := zs.toArray }, .bool false] 89))) (by have := HFEW.out.2.2; omega) [⟨[122, 122], zs, false⟩] (some ⟨w7.heap.size, 0, none⟩) 1 1 rfl (rows2 w7 _ [⟨[122, 122], zs, false⟩] rfl _ rfl) (by have := HFEW.out.1; simp; omega) (by have := HZL.out; simp [wtL, wtC]; omega) (by
      have h1 := sum_allL [⟨[122, 122], zs, false⟩] σ.has
      have h2 := HFEW.out.2.1
      have h3 := HZL.out
      rw [sumC_cons] at h1
      have h5 : sumC [] = 0 := rfl
      have h6 : wtC ⟨[122, 122], zs, false⟩ = 17 + 2 + zs.length := rfl
      rw [wtL_sum]; omega))
    have HSAY2 := hid (σ.commit_says [⟨[122, 122], zs, false⟩])
    have HPF := hid (fun h => put_fits (σ := σ) (k := [122, 122]) (v := zs) h)
    have HW8 := hid (HW7.out.step ((Mod.refl None w7).alloc (.cells #[.string { data := #[122, 122] }, .string { data := zs.toArray }, .bool false] 89)))
    generalize hr2 : σ.commit [⟨[122, 122], zs, false⟩] = r2 at *
    clear hr2 hcv hmk
    refine HC2.out.mono ?_
    rintro e w9 ⟨T9, rfl, hs9, t9⟩
    have HS9 := hid hs9
    have HW9 := hid (HW8.out.turn t9)
    clear hs9 t9 HC2 HW8 HS7 HW7
    have hw64 : IntKind.i64.wrap (64 * (N : Int)) = 64 * (N : Int) := by rw [IntKind.wrap_i64]; omega
    rcases HSAY2.out with ⟨hz, _⟩ | ⟨hz, hsame, _⟩
    · have hle : ¬ 64 * (N : Int) < (zn : Int) := by
        have h1 := HPF.out hz
        have h2 := HHAL.out
        have h3 := HZL.out
        omega
      rw [hz]
      go_wp2_with fail
      go_ret
      exact ⟨rfl, HS9.out.mod.below _ (Nat.le_refl _) (fun _ h => h.elim)⟩
    · rw [hz]
      rw [hsame] at HS9
      clear hz hsame HSAY2 HPF
      generalize hnn : σ.has.length = nn at *
      have HNN := hid hnn
      clear hnn
      have HP2 := hid (pairs_any HS9.out (by rw [HNN.out]; have := HFEW.out.1; omega))
      go_wp2_with fail
      all_goals
        refine HP2.out.mono ?_
        rintro e w10 ⟨pa, pc, rfl, hrow⟩
        have HS10 := hid (HS9.out.step hrow.mod)
        have HW10 := hid (HW9.out.step hrow.mod)
        obtain ⟨ra, rc, re, hrp⟩ := hrow.shape
        obtain ⟨rfl, rfl⟩ : pa = ra ∧ pc = rc := by injection re with e1 e2 e3; exact ⟨e1, e3⟩
        have HE1 := hid (same_any6 w10 pa wa σ.has.length nn pc wc σ.has σ.has rfl HNN.out.symm hrp HW10.out.1 (by rw [HNN.out]; have := HFEW.out.1; omega))
        rw [decide_eq_true rfl] at HE1
        clear hrow re hrp HP2 HS9 HW9
        rw [HNN.out] at HE1 ⊢
        go_wp2_with fail
        refine HE1.out.mono ?_
        rintro e w11 ⟨rfl, m11, rfl⟩
        have HS11 := hid (HS10.out.step (mod_drewN w10 m11))
        have HW11 := hid (HW10.out.step (mod_drewN w10 m11))
        clear HE1 HS10 HW10
        generalize w10.drewN m11 = w12 at *
        obtain ⟨S12, hl12, hST⟩ := HS11.out.live
        have HC12 := hid (live_crash hl12 0 0)
        have HW12 := hid (HW11.out.mono hST)
        clear hl12 hST HS11 HW11
        go_wp2_with fail
        refine HC12.out.mono ?_
        rintro e w13 ⟨S13, rfl, hl13, t13⟩
        have HW13 := hid (HW12.out.turn t13)
        have HO13 := hid (sopen_held w w13 S13 p σ.crashed _ hl13 (crashed_ok HOK.out.1) (crashed_held HOK.out.1 HHELD.out.choose_spec))
        clear hl13 t13 HC12 HW12
        go_wp2_with fail
        refine HO13.out.mono ?_
        rintro e w14 ⟨s2, c2, j2, v2, rfl, hs14, hm14, _, _, _, _⟩
        have HS14 := hid (IsStore.of hs14)
        have HW14 := hid (HW13.out.step hm14)
        clear hs14 hm14 HO13 HW13
        have HP14 := hid (pairs_any HS14.out (by show σ.has.length ≤ _; rw [HNN.out]; have := HFEW.out.1; omega))
        go_wp2_with fail
        refine HP14.out.mono ?_
        rintro e w15 ⟨pa2, pc2, rfl, hrow⟩
        have HS15 := hid (HS14.out.step hrow.mod)
        have HW15 := hid (HW14.out.step hrow.mod)
        obtain ⟨ra, rc, re, hrp⟩ := hrow.shape
        obtain ⟨rfl, rfl⟩ : pa2 = ra ∧ pc2 = rc := by injection re with e1 e2 e3; exact ⟨e1, e3⟩
        have HE2 := hid (same_any6 w15 pa2 wa σ.has.length nn pc2 wc σ.has σ.has rfl HNN.out.symm hrp HW15.out.1 (by rw [HNN.out]; have := HFEW.out.1; omega))
        rw [decide_eq_true rfl] at HE2
        clear hrow re hrp HP14 HS14 HW14
        have hcr : σ.crashed.has.length = nn := HNN.out
        rw [HNN.out] at HE2
        rw [hcr]
        go_wp2_with fail
        refine HE2.out.mono ?_
        rintro e w16 ⟨rfl, m16, rfl⟩
        have HS16 := hid (HS15.out.step (mod_drewN w15 m16))
        clear HE2 HS15 HW15
        go_wp2_with fail
        go_ret
        exact ⟨rfl, HS16.out.mod.below _ (Nat.le_refl _) (fun _ h => h.elim)⟩
  · rw [decide_eq_false h3]
    go_wp2_with fail
    refine (HAW.out w3 HS3.out.mod).mono ?_
    rintro e w4 ⟨rfl, hm4⟩
    have HM4 := hid hm4
    clear hm4
    go_wp2_with fail
    go_ret
    exact ⟨rfl, HM4.out.below _ (Nat.le_refl _) (fun _ h => h.elim)⟩
end Go.Proofs.Ytdhhpnfdnoaihaa

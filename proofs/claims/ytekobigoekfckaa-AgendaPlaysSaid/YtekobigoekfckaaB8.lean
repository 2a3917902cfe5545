/- An entry is put behind the others. -/
import Derived.Deep.QuietTactic
import Derived.Test.YtekobigoekfckaaB7
namespace Go.Proofs.Ytekobigoekfckaa
open Go.RowKit

theorem v_und34 : Try.prog.underlying 34 = some (.slice 36) := by kernel_rfl
theorem v_info36 : (Try.prog.info? 36).map (fun i => (i.zero, i.size, i.bytes)) = some (some (.agg #[.int .i64 0, .int .i64 0]), 2, 16) := by kernel_rfl
def GPost (S : Nat → Prop) (p : Nat) (l : List Ent) (w : World) (e : Ending) (w' : World) : Prop := e = .returned (.tuple #[]) ∧ IsAg w' (Grow S w w') p l ∧ Mod S w w'
theorem entC_snoc (l : List Ent) (x : Ent) : entC (l ++ [x]) = entC l ++ [.int .i64 x.1, .int .i64 x.2] := by simp [entC]
theorem e_ones (x : Ent) : Ones [.int .i64 x.1, .int .i64 x.2] := by intro v hv; simp at hv; rcases hv with rfl | rfl <;> rfl
@[go_sem] theorem run_assert (w : World) (v : Value) : (Instr.typeAssert (.iface 36 v) 20 36 false).run Try.prog w = .ok v w := by kernel_rfl
def Cells (x : Ent) : Obj := .cells #[.int .i64 x.1, .int .i64 x.2] 36
theorem Pos.grow {l : List Ent} {m : Int → Option Nat} (h : Pos l m) (x : Ent) (hx : ∀ y ∈ l, y.1 ≠ x.1) : m x.1 = none := by
  cases hm : m x.1 with
  | none => rfl
  | some k =>
    obtain ⟨h1, h2⟩ := h.back _ _ hm
    exact absurd h2 (hx _ (fn_mem h1))
section
variable {w w2 w3 : World} {S : Nat → Prop} {p : Nat} {l : List Ent} {m : Int → Option Nat} {lv : Value} {b : Nat} {x : Ent}
/-- what is known behind the map's turn -/
theorem push_mid (h : AgAt w S p l m lv b) (hm : Mod (fun k => k = b) (w.alloc (Cells x)).drew w2) :
    Mod (fun k => k = b) w w2 ∧ Blk w2 p 53 [lv, .map (some b)] ∧ Blk w2 w.heap.size 36 [.int .i64 x.1, .int .i64 x.2] ∧ OwnR w2 S 36 2 lv l.length (entC l) ∧
      (∀ o, (w2.alloc o).drew.ownsRow 0 36 2 lv l.length (entC l)) ∧ RdV (w2.alloc (Cells x)).drew (some ⟨w2.heap.size, 0, none⟩) [.int .i64 x.1, .int .i64 x.2] := by
  have hm2 : Mod (fun k => k = b) w w2 := (((Mod.refl _ w).alloc (Cells x)).drew).trans hm
  have hr := h.row.kept (S' := S) hm2 (fun g hg e => h.lb (by rw [hg, e])) (fun _ h => h)
  refine ⟨hm2, hm2.blk h.obj (h.map.ne h.obj), ?_, hr, fun o => (hr.kept (S' := S) (((Mod.refl None w2).alloc o).drew) (fun _ _ h => h) (fun _ h => h)).1, ?_⟩
  · have hn := Blk.new w 36 #[.int .i64 x.1, .int .i64 x.2]
    exact hm.blk (b := w.heap.size) hn (fun e => by have := h.map.lt; omega)
  · have hn := (Blk.new w2 36 #[.int .i64 x.1, .int .i64 x.2]).drew
    exact hn.rdv 0 (fun k _ => by rw [Nat.zero_add])
theorem push_cell (ho : Blk w2 p 53 [lv, .map (some b)]) (hp : lv.ownBlock ≠ some p) {o : Obj} (hm : Mod (fun k => lv.ownBlock = some k) (w2.alloc o).drew w3) :
    w3.cell? ⟨p, 0, none⟩ = some lv ∧ w3.frozen? ⟨p, 0, none⟩ = false := by
  have hb : Blk w3 p 53 [lv, .map (some b)] := hm.blk ((ho.alloc o).drew) hp
  exact ⟨hb.is rfl, hb.free 0⟩
theorem push_end (h : AgAt w S p l m lv b) (hx : ∀ y ∈ l, y.1 ≠ x.1) (hbx : In64 x.1 ∧ In64 x.2) (hm : Mod (fun k => k = b) (w.alloc (Cells x)).drew w2) (ha : IsAt w2 b (l.length + 1) (upd m x.1 (some l.length)))
    {va : Option Addr} {vc : Nat} {o : Obj} (h1 : w3.ownsRow 0 36 2 (.slice va (l.length + 1) vc) (l.length + 1) (entC l ++ [.int .i64 x.1, .int .i64 x.2]))
    (h2 : Mod (fun k => lv.ownBlock = some k) (w2.alloc o).drew w3)
    (h3 : ∀ g, (Value.slice va (l.length + 1) vc).ownBlock = some g → lv.ownBlock = some g ∨ ((w2.alloc o).drew.heap.size ≤ g ∧ g < w3.heap.size)) :
    IsAg (w3.setCell ⟨p, 0, none⟩ (.slice va (l.length + 1) vc)) (Grow S w w3) p (l ++ [x]) ∧ Mod S w (w3.setCell ⟨p, 0, none⟩ (.slice va (l.length + 1) vc)) := by
  obtain ⟨hm2, ho, _, hr, _, _⟩ := push_mid h hm
  have hpb := h.map.ne h.obj
  have hsz : (w2.alloc o).drew.heap.size = w2.heap.size + 1 := by simp
  have m1 : Mod S w w3 := ((hm2.mono (fun k _ e => by subst e; exact h.ownb)).trans (((Mod.refl S w2).alloc o).drew)).then h2 (fun k _ e => h.row.2 k e)
  have mset : Mod (fun k => k = p) w3 (w3.setCell ⟨p, 0, none⟩ (.slice va (l.length + 1) vc)) := Mod.set (S := fun k => k = p) (Mod.refl _ _) (.inl rfl) _
  have hob : Blk w3 p 53 [lv, .map (some b)] := h2.blk ((ho.alloc o).drew) h.lp
  have hpn : ∀ g, (Value.slice va (l.length + 1) vc).ownBlock = some g → g ≠ p ∧ g ≠ b := by
    intro g hg
    rcases h3 g hg with h' | h'
    · exact ⟨fun e => h.lp (by rw [h', e]), fun e => h.lb (by rw [h', e])⟩
    · have := ho.lt; have := ha.lt; exact ⟨by omega, by omega⟩
  have hat3 : IsAt w3 b (l.length + 1) (upd m x.1 (some l.length)) := (ha.keep (((Mod.refl None w2).alloc o).drew) (fun h => h)).keep h2 h.lb
  have hlen : (l ++ [x]).length = l.length + 1 := by simp
  refine ⟨⟨upd m x.1 (some l.length), .slice va (l.length + 1) vc, b, hob.set 0 _, .inl h.own, .inl h.ownb, ?_, ?_, h.pos.push x (h.pos.grow x hx), fun e => (hpn p e).1 rfl, fun e => (hpn b e).2 rfl, ?_, ?_⟩, m1.trans (mset.mono (fun k _ e => by subst e; exact h.own))⟩
  · rw [hlen, entC_snoc]
    have h5 : OwnR w3 (Grow S w w3) 36 2 (.slice va (l.length + 1) vc) (l.length + 1) (entC l ++ [.int .i64 x.1, .int .i64 x.2]) := by
      refine ⟨h1, fun g hg => ?_⟩
      rcases h3 g hg with h' | h'
      · exact .inl (h.row.2 g h')
      · have := hm2.size
        exact .inr ⟨by omega, h'.2⟩
    exact h5.kept mset (fun g hg e => (hpn g hg).1 e) (fun _ h => h)
  · rw [hlen]; exact hat3.keep mset (fun e => hpb e.symm)
  · intro e he
    rcases List.mem_append.1 he with he | he
    · exact h.big e he
    · simp only [List.mem_singleton] at he
      subst he; exact hbx
  · intro k hk
    rw [World.size_setCell]
    rcases hk with hk | hk
    · have := h.lt k hk; have := m1.size; omega
    · exact hk.2
end
set_option maxRecDepth 100000 in
set_option maxHeartbeats 3200000 in
theorem push_any (w : World) (S : Nat → Prop) (p : Nat) (l : List Ent) (h : IsAg w S p l) (x : Ent) (hx : ∀ y ∈ l, y.1 ≠ x.1) (hbx : In64 x.1 ∧ In64 x.2) (hroom : l.length < 3000000000000) :
    Calls Try.prog 66 #[Ptr p, IfE x] w (GPost S p (l ++ [x]) w) := by
  obtain ⟨m, lv, b, h⟩ := h
  have h0 := h.obj.is (i := 0) rfl
  have h00 := h.obj.is (i := 1) rfl
  have hpl := h.obj.lt
  obtain ⟨la, lc, rfl, hc1, hc2⟩ := h.shape
  have ha1 := (h.map.keep (((Mod.refl None w).alloc (Cells x)).drew) (fun h => h))
  obtain ⟨w2, hput, ha2, ht2⟩ := ha1.put (by unfold maxLen; omega) x.1 hbx.1 l.length (by unfold In64; omega)
  rw [h.pos.grow x hx, if_neg (by simp)] at ha2
  have hm2 := mapturned_mod ht2
  obtain ⟨_, ho2, hx2, _, how, hrn⟩ := push_mid h hm2
  have HA := hid h
  have HOW := hid how
  have HRN := hid hrn
  have HO := hid (fun (w3 : World) (o : Obj) hm => push_cell (w3 := w3) (o := o) ho2 h.lp hm)
  have HE := hid (fun (w3 : World) (va : Option Addr) (vc : Nat) (o : Obj) h1 h2 h3 => push_end (w3 := w3) (va := va) (vc := vc) (o := o) h hx hbx hm2 ha2 h1 h2 h3)
  have c0 := ho2.is (i := 0) rfl
  have c1 := hx2.is (i := 0) rfl
  have c2 := hx2.is (i := 1) rfl
  have hpl2 := ho2.lt
  have hql2 := hx2.lt
  obtain ⟨it, hi, hz, hsz, hby⟩ := info_parts v_info36
  clear ha1 ha2 ht2 hm2 ho2 hx2 how hrn h hx hbx
  unfold maxLen at hc2
  unfold Cells at *
  unfold Ptr IfE
  go_enter Try.func66, Try.ntmps66
  go_wp2
  go_region
  generalize w.heap.size = q at *
  go_wp2
  generalize hn : l.length = n at *
  go_region_law (refine step_of rfl (wp_append_R (.tmp 22) (.tmp 24) 34 rfl 36 it (.agg #[.int .i64 0, .int .i64 0]) 2 16 v_und34 hi hz hsz hby rfl (by decide) (.slice la n lc) n (entC l) rfl (HOW.out _) _ 1 1 [.int .i64 x.1, .int .i64 x.2] rfl rfl HRN.out (e_ones x) (by unfold maxLen; omega) (by omega) ?_); intro va vc w3 g1 g2 g3; obtain ⟨c3, f3⟩ := HO.out _ _ g2.out)
  all_goals
    obtain ⟨hq1, hq2⟩ := HE.out _ _ _ _ g1.out g2.out g3.out
    have HQ1 := hid hq1
    have HQ2 := hid hq2
    clear hq1 hq2 g1 g2 g3
    go_wp2
    go_end0
    refine ⟨rfl, ?_, HQ2.out⟩
    have e : Grow S w (w3.setCell ⟨p, 0, none⟩ (.slice va (n + 1) vc)) = Grow S w w3 := by unfold Grow; rw [World.size_setCell]
    rw [e]; exact HQ1.out
end Go.Proofs.Ytekobigoekfckaa

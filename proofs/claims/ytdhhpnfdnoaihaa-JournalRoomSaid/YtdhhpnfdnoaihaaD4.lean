/- Disk.Write. -/
import Derived.Test.YtdhhpnfdnoaihaaD3
import Derived.Test.YtdhhpnfdnoaihaaL5
namespace Go.Proofs.Ytdhhpnfdnoaihaa
open Go.RowKit

def pad64 (d : List UInt8) : List UInt8 := d ++ List.replicate (64 - d.length) 0
theorem pad64_length (d : List UInt8) (h : d.length ≤ 64) : (pad64 d).length = 64 := by simp [pad64]; omega
theorem splice_pad (i : Int) (d : List UInt8) : splice (wC i zeros64) 1 (d.map B) = wC i (pad64 d) := by
  unfold splice wC pad64 zeros64
  rw [List.map_append, List.map_replicate, List.map_replicate]
  simp only [List.take_succ_cons, List.take_zero, List.cons_append, List.nil_append, List.length_map]
  congr 2
  rw [show 1 + d.length = d.length + 1 by omega, List.drop_succ_cons, List.drop_replicate]
theorem rdv_alloc {w : World} {a : Option Addr} {vs : List Value} (h : RdV w a vs) (o : Obj) : RdV (w.alloc o) a vs :=
  ((Mod.refl None w).alloc o).rdv h (fun _ _ h => h)
theorem run_copy_w (w0 : World) (ty : TypeId) (i : Int) (sa : Option Addr) (c : Nat) (m : List UInt8) (hr : Rd w0 sa m) (hm : m.length ≤ 64) :
    (Builtin.copy_ #[27, 27] ty #[.slice (some ⟨w0.heap.size, 1, none⟩) 64 64, .slice sa m.length c]).run Try.prog (w0.alloc (.cells (wC i zeros64).toArray 107)) =
      .ok (goInt m.length) (w0.alloc (.cells (wC i (pad64 m)).toArray 107)) := by
  have hsz : (Try.prog.info? 5).map (·.size) = some 1 := by kernel_rfl
  by_cases h0 : m = []
  · subst h0
    have := run_copy_none (P := Try.prog) (w0.alloc (.cells (wC i zeros64).toArray 107)) 27 27 ty 5 (some ⟨w0.heap.size, 1, none⟩) sa 64 64 0 c l_und27 hsz (by simp)
    exact this
  · rcases rdv_alloc hr (.cells (wC i zeros64).toArray 107) with h | ⟨b, o, rfl, hc⟩
    · exact absurd (by simpa using h) h0
    · have hmin : Nat.min m.length 64 = m.length := Nat.min_eq_left hm
      have := run_copy_row (P := Try.prog) (w0.alloc (.cells (wC i zeros64).toArray 107)) 27 27 ty 5 w0.heap.size 1 64 64 ⟨b, o, none⟩ m.length c (wC i zeros64).toArray 107 (m.map B) l_und27 hsz
        (heap_alloc_new w0 _) (by rw [List.length_map, hmin]) (fun j v hv => by
          have hj : j < (m.map B).length := by
            rcases Nat.lt_or_ge j (m.map B).length with h | h
            · exact h
            · rw [List.getElem?_eq_none h] at hv; cases hv
          rw [addr_add, hc j hj, hv]) (by simp [wC, zeros64]; omega) (B_one m)
      rw [this]
      have e := splice_pad i m
      unfold splice at e
      rw [List.toList_toArray, List.append_assoc, e, List.length_map]
      exact congrArg (Result.ok (goInt m.length)) (putRow_new w0 (wC i zeros64).toArray 107 (wC i (pad64 m)))
theorem wpList_copy_w {ops : Array Oper} {rest : List Oper} {o : Oper} {a : Act} {Q : Exit → Act → World → Prop} (hgd : o.guard = none) (d s : Operand)
    (ho : o.op = .call { callee := .builtin .copy, args := #[d, s], argTypes := #[27, 27] }) (w0 : World) (i : Int) (sa : Option Addr) (c : Nat) (m : List UInt8)
    (hd : a.eval d = .slice (some ⟨w0.heap.size, 1, none⟩) 64 64) (hs : a.eval s = .slice sa m.length c) (hr : Rd w0 sa m) (hm : m.length ≤ 64)
    (h : wpList Try.prog ops Q rest (a.put o.dst (goInt m.length)) (w0.alloc (.cells (wC i (pad64 m)).toArray 107))) : wpList Try.prog ops Q (o :: rest) a (w0.alloc (.cells (wC i zeros64).toArray 107)) := by
  refine wpList_plain hgd fun K hK => ?_
  have hrun := run_copy_w w0 o.type i sa c m hr hm
  unfold Oper.wp
  simp [execOp, ho, resolve, invoke, builtin, hd, hs, hrun, Result.andThen]
  exact hK _ _ h
@[go_sem] theorem ld107_new (w : World) (n : Nat) (i : Int) (d : List UInt8) (hn : n = w.heap.size) (hd : d.length = 64) :
    ldRun 107 (.pointer (some ⟨n, 0, none⟩)) (w.alloc (.cells (wC i d).toArray 107)) = .ok (.value (Agg (wC i d))) (w.alloc (.cells (wC i d).toArray 107)) := by
  subst hn
  rw [ld_blk (n := 65) wide107 (Blk.new w 107 _) (by rw [List.toList_toArray, wC_length]; omega)]
  congr 3
  rw [List.toList_toArray, List.drop_zero, List.take_of_length_le (by rw [wC_length]; omega)]
@[go_sem] theorem ld107_new_drew (w : World) (n : Nat) (i : Int) (d : List UInt8) (hn : n = w.heap.size) (hd : d.length = 64) :
    ldRun 107 (.pointer (some ⟨n, 0, none⟩)) (w.alloc (.cells (wC i d).toArray 107)).drew = .ok (.value (Agg (wC i d))) (w.alloc (.cells (wC i d).toArray 107)).drew :=
  ld107_new w.drew n i d hn hd

def DSt.put (st : DSt) (i : Nat) (d : List UInt8) : DSt := { st with waits := st.waits ++ [(i, d)] }
def DSt.write (st : DSt) (i : Int) (d : List UInt8) : DSt × Int :=
  if st.may i = 0 then (if 64 < d.length then (st, 3) else ((st.put i.toNat (pad64 d)).changed, 0)) else (st, st.may i)
def WritePost (S : Nat → Prop) (p : Nat) (r : DSt × Int) (w : World) (e : Ending) (w' : World) : Prop :=
  e = .returned (.int .i64 r.2) ∧ IsDisk w' (Grow S w w') p r.1 ∧ Mod S w w'
theorem IsDisk.grow {w : World} {S : Nat → Prop} {p : Nat} {st : DSt} (h : IsDisk w S p st) : IsDisk w (Grow S w w) p st := by
  obtain ⟨lv, wv, h⟩ := h
  exact ⟨lv, wv, h.obj, .inl h.own, h.last.kept (Mod.refl None w) (fun _ _ h => h) (fun _ h => .inl h), h.waits.kept (Mod.refl None w) (fun _ _ h => h) (fun _ h => .inl h), h.lp, h.wp, h.lw, h.ok,
    fun k hk => by rcases hk with hk | hk; exact h.lt k hk; omega⟩

theorem write_own {w : World} {S : Nat → Prop} {p : Nat} {st : DSt} {lv wv : Value} (h : DiskAt w S p st lv wv) (o1 o2 : Obj) : ((w.alloc o1).alloc o2).drew.ownsRow 0 107 65 wv st.waits.length (waitC st.waits) :=
  (h.waits.kept (S' := S) ((((Mod.refl None w).alloc o1).alloc o2).drew) (fun _ _ h => h) (fun _ h => h)).1
theorem write_cell {w : World} {S : Nat → Prop} {p : Nat} {st : DSt} {lv wv : Value} (h : DiskAt w S p st lv wv) {o1 o2 : Obj} {w3 : World} (hm : Mod (fun k => wv.ownBlock = some k) ((w.alloc o1).alloc o2).drew w3) :
    w3.cell? ⟨p, 1, none⟩ = some wv ∧ w3.frozen? ⟨p, 1, none⟩ = false := by
  have hb : Blk w3 p 102 [lv, wv, .int .i64 st.armed, .bool st.down] := hm.blk (((h.obj.alloc o1).alloc o2).drew) h.wp
  exact ⟨hb.is rfl, hb.free 1⟩
theorem IsDisk.mono {w : World} {S S' : Nat → Prop} {p : Nat} {st : DSt} (h : IsDisk w S p st) (hS : ∀ k, S k → S' k) (hlt : ∀ k, S' k → k < w.heap.size) : IsDisk w S' p st := by
  obtain ⟨lv, wv, h⟩ := h
  exact ⟨lv, wv, h.obj, hS _ h.own, ⟨h.last.1, fun g hg => hS g (h.last.2 g hg)⟩, ⟨h.waits.1, fun g hg => hS g (h.waits.2 g hg)⟩, h.lp, h.wp, h.lw, h.ok, hlt⟩
theorem waitC_snoc (l : List (Nat × List UInt8)) (i : Nat) (d : List UInt8) : waitC (l ++ [(i, d)]) = waitC l ++ wC i d := by
  simp [waitC]
theorem write_end {w w3 : World} {S : Nat → Prop} {p : Nat} {st : DSt} {lv wv : Value} {i : Int} {d : List UInt8} (h : DiskAt w S p st lv wv) (hm : st.may i = 0) (hd : (pad64 d).length = 64) {o1 o2 : Obj} {va : Option Addr} {vc : Nat}
    (h1 : w3.ownsRow 0 107 65 (.slice va (st.waits.length + 1) vc) (st.waits.length + 1) (waitC st.waits ++ wC i (pad64 d))) (h2 : Mod (fun k => wv.ownBlock = some k) ((w.alloc o1).alloc o2).drew w3)
    (h3 : ∀ g, (Value.slice va (st.waits.length + 1) vc).ownBlock = some g → wv.ownBlock = some g ∨ (((w.alloc o1).alloc o2).drew.heap.size ≤ g ∧ g < w3.heap.size)) :
    IsDisk (w3.setCell ⟨p, 1, none⟩ (.slice va (st.waits.length + 1) vc)) (Grow S w w3) p (st.put i.toNat (pad64 d)) ∧ Mod S w (w3.setCell ⟨p, 1, none⟩ (.slice va (st.waits.length + 1) vc)) := by
  have hi : 0 ≤ i ∧ i < st.last.length := by
    unfold DSt.may at hm
    split at hm
    · omega
    · split at hm
      · omega
      · omega
  have hi' : ((i.toNat : Nat) : Int) = i := Int.toNat_of_nonneg hi.1
  have m0 : ∀ T, Mod T w ((w.alloc o1).alloc o2).drew := fun T => (((Mod.refl T w).alloc o1).alloc o2).drew
  have m1 : Mod S w w3 := (m0 S).then h2 (fun k _ e => h.waits.2 k e)
  have m2 : Mod S w (w3.setCell ⟨p, 1, none⟩ (.slice va (st.waits.length + 1) vc)) := m1.set (.inl h.own) _
  have hsz : ((w.alloc o1).alloc o2).drew.heap.size = w.heap.size + 2 := by simp
  have hpn : ∀ g, (Value.slice va (st.waits.length + 1) vc).ownBlock = some g → g ≠ p := by
    intro g hg e
    subst e
    rcases h3 g hg with h' | h'
    · exact h.wp h'
    · have := h.obj.lt; omega
  have hob : Blk w3 p 102 [lv, wv, .int .i64 st.armed, .bool st.down] := h2.blk (((h.obj.alloc o1).alloc o2).drew) h.wp
  have mset : Mod (fun k => k = p) w3 (w3.setCell ⟨p, 1, none⟩ (.slice va (st.waits.length + 1) vc)) := Mod.set (S := fun k => k = p) (Mod.refl _ _) (.inl rfl) _
  refine ⟨⟨lv, .slice va (st.waits.length + 1) vc, hob.set 1 _, .inl h.own, ?_, ?_, h.lp, fun e => hpn p e rfl, ?_, ⟨h.ok.one, h.ok.most, h.ok.sec, ?_, h.ok.arm⟩, ?_⟩, m2⟩
  · have h5 := h.last.kept (m0 None) (fun _ _ h => h) (fun _ h => h)
    have h6 := h5.kept h2 (fun g hg e => h.lw g hg e) (fun _ h => h)
    exact h6.kept mset (fun g hg e => h.lp (by rw [hg, e])) (fun _ h => .inl h)
  · have h5 : OwnR w3 (Grow S w w3) 107 65 (.slice va (st.waits.length + 1) vc) (st.put i.toNat (pad64 d)).waits.length (waitC (st.put i.toNat (pad64 d)).waits) := by
      refine ⟨?_, fun g hg => ?_⟩
      · show w3.ownsRow 0 107 65 _ (st.waits ++ [(i.toNat, pad64 d)]).length (waitC (st.waits ++ [(i.toNat, pad64 d)]))
        rw [waitC_snoc, hi', List.length_append]; exact h1
      · rcases h3 g hg with h' | h'
        · exact .inl (h.waits.2 g h')
        · exact .inr ⟨by omega, h'.2⟩
    exact h5.kept mset (fun g hg e => hpn g hg e) (fun _ h => h)
  · intro g hg e
    rcases h3 g e with h' | h'
    · exact h.lw g hg h'
    · have := h.lt g (h.last.2 g hg); omega
  · intro x hx
    rcases List.mem_append.1 hx with hx | hx
    · exact h.ok.wait x hx
    · simp only [List.mem_singleton] at hx
      subst hx
      exact ⟨by show i.toNat < st.last.length; omega, hd⟩
  · intro k hk
    rw [World.size_setCell]
    rcases hk with hk | hk
    · have := h.lt k hk; have := m1.size; omega
    · exact hk.2
theorem write_new (w : World) (i : Int) (d : List UInt8) : RdV ((w.alloc (.cells (wC i d).toArray 107)).alloc (.cells (wC i d).toArray 107)).drew (some ⟨w.heap.size + 1, 0, none⟩) (wC i d) := by
  have h : Blk ((w.alloc (.cells (wC i d).toArray 107)).alloc (.cells (wC i d).toArray 107)).drew (w.heap.size + 1) 107 (wC i d) := by
    have := Blk.new (w.alloc (.cells (wC i d).toArray 107)) 107 (wC i d).toArray
    rw [World.size_alloc] at this; exact this
  exact h.rdv 0 (fun k _ => by rw [Nat.zero_add])
set_option maxRecDepth 100000 in
set_option maxHeartbeats 1600000 in
theorem write_any (w : World) (S : Nat → Prop) (p : Nat) (st : DSt) (h : IsDisk w S p st) (i : Int) (a : Option Addr) (c : Nat) (d : List UInt8) (hr : Rd w a d) (hd : d.length ≤ 140737488351232) (hroom : st.waits.length < 3000000000000) :
    Calls Try.prog 30 #[.pointer (some ⟨p, 0, none⟩), .int .i64 i, .slice a d.length c] w (WritePost S p (st.write i d) w) := by
  by_cases hm : st.may i = 0
  · by_cases hl : 64 < d.length
    · have hw : st.write i d = (st, 3) := by unfold DSt.write; rw [if_pos hm, if_pos hl]
      rw [hw]
      have HM := hid hm
      have hl' : (64 : Int) < (d.length : Int) := by omega
      clear hm hw hroom
      go_enter Try.func30, Try.ntmps30
      go_wp2_with fail
      refine (may_any _ S p st h i).mono ?_
      rintro e w' ⟨rfl, rfl⟩
      rw [HM.out]
      go_wp2_with fail
      go_ret
      exact ⟨rfl, h.grow, Mod.refl _ _⟩
    · have hw : st.write i d = ((st.put i.toNat (pad64 d)).changed, 0) := by unfold DSt.write; rw [if_pos hm, if_neg hl]
      rw [hw]
      have HM := hid hm
      have hl' : ¬ (64 : Int) < (d.length : Int) := by omega
      clear hm hw
      have H := hid h
      have HR := hid hr
      have HL := hid (show d.length ≤ 64 by omega)
      have HP := hid (pad64_length d (by omega))
      clear h hr
      go_enter Try.func30, Try.ntmps30
      go_wp2_with fail
      refine (may_any _ S p st H.out i).mono ?_
      rintro e w' ⟨rfl, rfl⟩
      rw [HM.out]
      go_wp2_with (refine wpList_copy_w rfl (.tmp 21) (.tmp 22) rfl w i a c d rfl rfl HR.out HL.out ?_)
      obtain ⟨lv, wv, hat⟩ := H.out
      obtain ⟨_, hp1, _, _⟩ := hat.cells
      have hf1 := hat.obj.free 1
      have hplt := hat.obj.lt
      obtain ⟨wa, wc, rfl, hwc, hwm⟩ := hat.waits.shape
      have HA := hid hat
      have HOW := hid (fun o1 o2 => (write_own hat o1 o2))
      have HRN := hid (write_new w i (pad64 d))
      clear hat
      obtain ⟨it, hi, hz, hsz, hby⟩ := info_parts d_info107
      have hd64 := HP.out
      go_region_law (refine step_of rfl (wp_append_R (.tmp 28) (.tmp 30) 100 rfl 107 it (Agg (wC 0 zeros64)) 65 72 d_und100 hi hz hsz hby (wC_length 0 zeros64) (by decide) (.slice wa st.waits.length wc) st.waits.length (waitC st.waits) rfl (HOW.out _ _) _ 1 1 (wC i (pad64 d)) rfl (by rw [wC_length, HP.out]) HRN.out (wC_ones _ _) (by unfold maxLen; omega) (by omega) ?_); intro va vc w3 g1 g2 g3; obtain ⟨c3, f3⟩ := write_cell HA.out g2.out)
      all_goals
        obtain ⟨hd1, hm1⟩ := write_end HA.out HM.out HP.out g1.out g2.out g3.out
        have HD := hid hd1
        have HMM := hid hm1
        clear hd1 hm1 g1 g2 g3 c3 f3 hp1 hf1 hplt
        go_wp2_with fail
        refine (changed_any _ _ p _ HD.out).mono ?_
        rintro e w5 ⟨rfl, hd5, hm5⟩
        have HD5 := hid hd5
        have HM5 := hid hm5
        clear hd5 hm5
        go_wp2_with fail
        go_ret
        refine ⟨rfl, HD5.out.mono (fun k hk => hk.imp id (fun h => ⟨h.1, Nat.lt_of_lt_of_le h.2 (by have := HM5.out.size; rwa [World.size_setCell] at this)⟩)) (fun k hk => ?_), HMM.out.then HM5.out (fun k _ e => by subst e; exact HA.out.own)⟩
        rcases hk with hk | hk
        · exact Nat.lt_of_lt_of_le (HA.out.lt k hk) (Nat.le_trans HMM.out.size HM5.out.size)
        · exact hk.2
  · have hw : st.write i d = (st, st.may i) := by unfold DSt.write; rw [if_neg hm]
    rw [hw]
    have hne : (st.may i != 0) = true := by rw [bne_iff_ne]; exact hm
    clear hm hw
    have H := hid h
    clear h hroom
    generalize hx : st.may i = x at *
    have HX := hid hx
    clear hx
    go_enter Try.func30, Try.ntmps30
    go_wp2_with fail
    refine (may_any _ S p st H.out i).mono ?_
    rintro e w' ⟨rfl, rfl⟩
    rw [HX.out]
    go_wp2_with fail
    go_ret
    exact ⟨rfl, H.out.grow, Mod.refl _ _⟩
end Go.Proofs.Ytdhhpnfdnoaihaa

/- Disk.Crash. -/
import Derived.Test.YtdhhpnfdnoaihaaD5
namespace Go.Proofs.Ytdhhpnfdnoaihaa
open Go.RowKit

/-- copy of bytes into a row -/
theorem run_copy_blk {w : World} {g off dLen dCap : Nat} {t ty : TypeId} {cur : List Value} (hb : Blk w g t cur) {sa : Option Addr} {n c : Nat} {vs : List Value} (hr : RdV w sa vs) (hn : vs.length = n) (h1 : Ones vs) (hl : off + Nat.min n dLen ≤ cur.length) :
    (Builtin.copy_ #[27, 27] ty #[.slice (some ⟨g, off, none⟩) dLen dCap, .slice sa n c]).run Try.prog w = .ok (goInt (Nat.min n dLen)) (putRow w g (splice cur off (vs.take (Nat.min n dLen)))) := by
  have hsz : (Try.prog.info? 5).map (·.size) = some 1 := by kernel_rfl
  subst hn
  by_cases h0 : Nat.min vs.length dLen = 0
  · have := run_copy_none (P := Try.prog) w 27 27 ty 5 (some ⟨g, off, none⟩) sa dLen dCap vs.length c l_und27 hsz h0
    rw [this, h0, List.take_zero]
    have e : splice cur off ([] : List Value) = cur := by simp [splice]
    rw [e]
    unfold putRow
    rw [setRow_self w g cur.toArray t (0, 0) hb]; rfl
  · rcases hr with h | ⟨b, o, rfl, hc⟩
    · subst h; simp at h0
    · have hlen : (vs.take (Nat.min vs.length dLen)).length = Nat.min vs.length dLen := by
        rw [List.length_take]; exact Nat.min_eq_left (Nat.min_le_left _ _)
      have := run_copy_row (P := Try.prog) w 27 27 ty 5 g off dLen dCap ⟨b, o, none⟩ vs.length c cur.toArray t (vs.take (Nat.min vs.length dLen)) l_und27 hsz hb hlen (fun j v hv => by
        have hj : j < (vs.take (Nat.min vs.length dLen)).length := by
          rcases Nat.lt_or_ge j (vs.take (Nat.min vs.length dLen)).length with h | h
          · exact h
          · rw [List.getElem?_eq_none h] at hv; cases hv
        rw [hlen] at hj
        rw [List.getElem?_take, if_pos hj] at hv
        have hj2 : j < vs.length := Nat.lt_of_lt_of_le hj (Nat.min_le_left _ _)
        rw [addr_add, hc j hj2, hv]) (by rw [hlen]; simpa using hl) (fun v hv => h1 v (List.mem_of_mem_take hv))
      rw [this]
      unfold putRow splice
      rw [hlen, List.toList_toArray, List.append_assoc]
theorem wpList_copy_blk {w : World} {ops : Array Oper} {rest : List Oper} {o : Oper} {a : Act} {Q : Exit → Act → World → Prop} (hgd : o.guard = none) (d s : Operand)
    (ho : o.op = .call { callee := .builtin .copy, args := #[d, s], argTypes := #[27, 27] }) {g off dLen dCap : Nat} {t : TypeId} {cur : List Value} {sa : Option Addr} {n c : Nat} {vs : List Value}
    (hd : a.eval d = .slice (some ⟨g, off, none⟩) dLen dCap) (hs : a.eval s = .slice sa n c) (hb : Blk w g t cur) (hr : RdV w sa vs) (hn : vs.length = n) (h1 : Ones vs) (hl : off + Nat.min n dLen ≤ cur.length)
    (h : wpList Try.prog ops Q rest (a.put o.dst (goInt (Nat.min n dLen))) (putRow w g (splice cur off (vs.take (Nat.min n dLen))))) : wpList Try.prog ops Q (o :: rest) a w := by
  refine wpList_plain hgd fun K hK => ?_
  have hrun := run_copy_blk (ty := o.type) (dCap := dCap) (c := c) hb hr hn h1 hl
  unfold Oper.wp
  simp [execOp, ho, resolve, invoke, builtin, hd, hs, hrun, Result.andThen]
  exact hK _ _ h
theorem splice_part {α : Type} (X Y : List α) (o t : Nat) (ht : t ≤ 64) (hY : Y.length = 64) (hX : o + 64 ≤ X.length) : splice X o (Y.take t) = splice X o (Y.take t ++ ((X.drop o).take 64).drop t) := by
  have h1 : (Y.take t).length = t := by simp; omega
  have h2 : (Y.take t ++ ((X.drop o).take 64).drop t).length = 64 := by simp; omega
  unfold splice
  rw [h2, h1, List.append_assoc]
  congr 2
  rw [← List.drop_drop, ← List.drop_drop]
  conv => lhs; rw [← List.take_append_drop 64 (X.drop o)]
  rw [List.drop_append_of_le_length (by simp; omega)]

def torn (d old : List UInt8) (t : Nat) : List UInt8 := d.take t ++ old.drop t
def DSt.tear (st : DSt) (x : Nat × List UInt8) (t : Nat) : DSt := { st with last := st.last.set x.1 (torn x.2 (st.last.getD x.1 []) t) }
def clampN (a : Int) (n : Nat) : Nat := (min (max a 0) (n : Int)).toNat
def DSt.crashed (st : DSt) (n t : Nat) : DSt :=
  { last := (match st.waits[n]? with | some x => ((st.settle n).tear x t).last | none => (st.settle n).last), waits := [], armed := -1, down := false }
def DSt.crash (st : DSt) (keep tn : Int) : DSt := st.crashed (clampN keep st.waits.length) (clampN tn 64)
theorem DSt.crashed_none (st : DSt) (n t : Nat) (h : st.waits.length ≤ n) : st.crashed n t = { last := (st.settle n).last, waits := [], armed := -1, down := false } := by
  unfold DSt.crashed; rw [List.getElem?_eq_none h]
theorem DSt.crashed_some (st : DSt) (n t : Nat) (x : Nat × List UInt8) (h : st.waits[n]? = some x) : st.crashed n t = { last := ((st.settle n).tear x t).last, waits := [], armed := -1, down := false } := by
  unfold DSt.crashed; rw [h]
/-- the greater and the lesser of two, kept whole in a walk -/
def imax (a b : Int) : Int := max a b
def imin (a b : Int) : Int := min a b
noncomputable def mxRun (v u : Value) (w : World) : Result Next := (Sem.run Try.prog (do let x ← Builtin.max_ #[3, 3] 3 #[v, u]; pure (Next.value x) : Sem Next) w)
noncomputable def mnRun (v u : Value) (w : World) : Result Next := (Sem.run Try.prog (do let x ← Builtin.min_ #[3, 3] 3 #[v, u]; pure (Next.value x) : Sem Next) w)
section
variable (ρ : Operand → Value) (dst : Option Tmp) (x y : Operand) (pos : String) (after : Array Edge) (g : Option (Nat × Bool)) (w : World)
@[go_sem ↓] theorem exec_max : (execOp ρ { dst := dst, op := .call { callee := .builtin .max, args := #[x, y], argTypes := #[3, 3] }, type := 3, pos := pos, after := after, guard := g }).run Try.prog w = mxRun (ρ x) (ρ y) w := by
  unfold mxRun
  simp only [execOp, resolve, invoke, builtin, Sem.run_bind, Sem.run_pure, Result.andThen_ok, List.map_toArray, List.map_cons, List.map_nil]
@[go_sem ↓] theorem exec_min : (execOp ρ { dst := dst, op := .call { callee := .builtin .min, args := #[x, y], argTypes := #[3, 3] }, type := 3, pos := pos, after := after, guard := g }).run Try.prog w = mnRun (ρ x) (ρ y) w := by
  unfold mnRun
  simp only [execOp, resolve, invoke, builtin, Sem.run_bind, Sem.run_pure, Result.andThen_ok, List.map_toArray, List.map_cons, List.map_nil]
end
@[go_sem] theorem run_imax (a b : Int) (w : World) : mxRun (.int .i64 a) (.int .i64 b) w = .ok (.value (.int .i64 (imax a b))) w := by
  unfold mxRun imax
  have e : max a b = if b > a then b else a := by split <;> omega
  rw [e]
  simp [Builtin.max_, Builtin.max2]
@[go_sem] theorem run_imin (a b : Int) (w : World) : mnRun (.int .i64 a) (.int .i64 b) w = .ok (.value (.int .i64 (imin a b))) w := by
  unfold mnRun imin
  have e : min a b = if b < a then b else a := by split <;> omega
  rw [e]
  simp [Builtin.min_, Builtin.min2]
theorem clamp_if (a : Int) (n : Nat) : imin (imax a 0) (n : Int) = (clampN a n : Int) := by
  unfold clampN imin imax; omega
theorem clamp_le (a : Int) (n : Nat) : clampN a n ≤ n := by unfold clampN; omega
def VoidPost (S : Nat → Prop) (p : Nat) (st : DSt) (w : World) (e : Ending) (w' : World) : Prop := e = .returned (.tuple #[]) ∧ IsDisk w' S p st ∧ Mod S w w'

theorem crash_end {w w1 : World} {S : Nat → Prop} {p : Nat} {st : DSt} {lv wv : Value} (hS : S p) (hm : Mod S w w1) (h : DiskAt w1 S p st lv wv) :
    VoidPost S p { last := st.last, waits := [], armed := -1, down := false } w (.returned (.tuple #[])) (((w1.setCell ⟨p, 1, none⟩ (.slice none 0 0)).setCell ⟨p, 3, none⟩ (.bool false)).setCell ⟨p, 2, none⟩ (.int .i64 (-1))) := by
  have m : ∀ T : Nat → Prop, T p → Mod T w1 (((w1.setCell ⟨p, 1, none⟩ (.slice none 0 0)).setCell ⟨p, 3, none⟩ (.bool false)).setCell ⟨p, 2, none⟩ (.int .i64 (-1))) :=
    fun T hT => Mod.set (Mod.set (Mod.set (Mod.refl _ _) (.inl hT) _) (.inl hT) _) (.inl hT) _
  exact ⟨rfl, ⟨_, _, h.struck (m (fun k => k = p) rfl) (((h.obj.set 1 _).set 3 _).set 2 _) (by omega)⟩, hm.trans (m S hS)⟩
theorem crash_round {w : World} {S : Nat → Prop} {p : Nat} {st : DSt} {g n c : Nat} {lv : Value} (h : DiskAt w S p st lv (.slice (some ⟨g, 0, none⟩) n c)) {k : Nat} (hk : k < st.waits.length) {x : Nat × List UInt8} (hx : st.waits[k]? = some x) :
    ldRun 107 (.pointer (some ⟨g, k * 65, none⟩)) w = .ok (.value (Agg (wC x.1 x.2))) w ∧
    ∃ L lc lrest, lv = .slice (some ⟨L, 0, none⟩) st.last.length lc ∧ Blk w L 105 (lastC st.last ++ lrest) ∧ x.1 < st.last.length ∧ x.2.length = 64 ∧
      ∀ o t, t ≤ 64 → DiskAt (putRow (w.alloc o).drew L (splice (lastC st.last ++ lrest) (x.1 * 64) ((sC x.2).take t))) S p (st.tear x t) lv (.slice (some ⟨g, 0, none⟩) n c) ∧
        Mod S w (putRow (w.alloc o).drew L (splice (lastC st.last ++ lrest) (x.1 * 64) ((sC x.2).take t))) := by
  obtain ⟨hxk, hxe⟩ := List.getElem?_eq_some_iff.1 hx
  have hmem : x ∈ st.waits := by rw [← hxe]; exact List.getElem_mem hxk
  obtain ⟨h1, h2⟩ := h.ok.wait _ hmem
  have hsl := sec_len h.ok
  have hwl := wait_len h.ok
  obtain ⟨L, lc, lrest, rfl, hSL, hLb, hl1, hl2, hl3, hl4⟩ := h.lastv
  obtain ⟨g', wc, wrest, e, hSg, hgb, hw1, hw2, hw3, hw4⟩ := h.waits.open1 (by omega)
  obtain ⟨rfl, rfl, rfl⟩ : g = g' ∧ n = st.waits.length ∧ c = wc := by simpa using e
  refine ⟨?_, L, lc, lrest, rfl, hLb, h1, h2, ?_⟩
  · rw [ld_blk (n := 65) wide107 hgb ?_]
    · congr 3
      rw [← hxe]
      exact flat_at (fun x : Nat × List UInt8 => wC x.1 x.2) 65 st.waits wrest hwl k hk
    · have : (k + 1) * 65 ≤ st.waits.length * 65 := Nat.mul_le_mul_right _ hk
      rw [List.length_append, hw4]; omega
  · intro o t ht
    have hold : st.last.getD x.1 [] = st.last[x.1] := by rw [List.getD_eq_getElem?_getD, List.getElem?_eq_getElem h1]; rfl
    have holdlen : st.last[x.1].length = 64 := h.ok.sec _ (List.getElem_mem h1)
    have htl : (torn x.2 (st.last.getD x.1 []) t).length = 64 := by
      unfold torn; rw [hold, List.length_append, List.length_take, List.length_drop]; omega
    have hfit : x.1 * 64 + 64 ≤ (lastC st.last ++ lrest).length := by
      have : (x.1 + 1) * 64 ≤ st.last.length * 64 := Nat.mul_le_mul_right _ h1
      rw [List.length_append, hl4]; omega
    have hsp : splice (lastC st.last ++ lrest) (x.1 * 64) ((sC x.2).take t) = lastC (st.last.set x.1 (torn x.2 (st.last.getD x.1 []) t)) ++ lrest := by
      rw [splice_part _ _ _ t ht (by rw [sC_length, h2]) hfit]
      rw [show List.take 64 (List.drop (x.1 * 64) (lastC st.last ++ lrest)) = sC st.last[x.1] from flat_at sC 64 st.last lrest hsl x.1 h1]
      rw [← show sC (torn x.2 (st.last.getD x.1 []) t) = (sC x.2).take t ++ (sC st.last[x.1]).drop t from by
        unfold torn sC; rw [hold, List.map_append, List.map_take, List.map_drop]]
      exact flat_set sC 64 _ (by rw [sC_length, htl]) st.last lrest hsl _ h1
    have hlen : (lastC (st.last.set x.1 (torn x.2 (st.last.getD x.1 []) t))).length = st.last.length * 64 := by
      have := flat_len sC 64 (st.last.set x.1 (torn x.2 (st.last.getD x.1 []) t)) (fun s hs => by
        rcases List.mem_or_eq_of_mem_set hs with hs | rfl
        · exact hsl s hs
        · rw [sC_length, htl])
      rw [List.length_set] at this; exact this
    rw [hsp]
    have m0 : ∀ T, Mod T w (w.alloc o).drew := fun T => ((Mod.refl T w).alloc o).drew
    have hb : Blk (w.alloc o).drew L 105 (lastC st.last ++ lrest) := (hLb.alloc o).drew
    have m1 : Mod (fun k => k = L) (w.alloc o).drew (putRow (w.alloc o).drew L (lastC (st.last.set x.1 (torn x.2 (st.last.getD x.1 []) t)) ++ lrest)) := Mod.put (S := fun k => k = L) (Mod.refl _ _) (.inl rfl) _
    refine ⟨?_, (m0 S).then m1 (fun k _ e => by subst e; exact hSL)⟩
    refine ⟨m1.blk (((h.obj.alloc o).drew)) (fun e => h.lp (by rw [e]; rfl)), h.own, ?_, ?_, h.lp, h.wp, h.lw, ⟨?_, ?_, ?_, ?_, h.ok.arm⟩, ?_⟩
    · refine ⟨⟨by show (lastC (st.last.set _ _)).length = (st.last.set _ _).length * 64; rw [hlen, List.length_set], .inr ⟨L, lc, _, ?_, Nat.zero_le _, hb.put _, ?_, hl2, ?_, ?_⟩⟩, fun g hg => h.last.2 g hg⟩
      · show _ = Value.slice _ (st.last.set _ _).length _; rw [List.length_set]
      · show (st.last.set _ _).length ≤ _; rw [List.length_set]; exact hl1
      · rw [List.size_toArray, List.length_append, hlen, ← hl4, ← List.length_append]; exact hl3
      · show List.take ((st.last.set _ _).length * 64) _ = _
        rw [List.length_set, List.toList_toArray, ← hlen, List.take_left]; rfl
    · exact (h.waits.kept (m0 None) (fun _ _ h => h) (fun _ h => h)).kept m1 (fun g hg e => h.lw L rfl (by rw [hg, e])) (fun _ h => h)
    · show 1 ≤ (st.last.set _ _).length; rw [List.length_set]; exact h.ok.one
    · show (st.last.set _ _).length ≤ _; rw [List.length_set]; exact h.ok.most
    · intro s hs
      rcases List.mem_or_eq_of_mem_set hs with hs | rfl
      · exact h.ok.sec s hs
      · exact htl
    · intro x hx
      show x.1 < (st.last.set _ _).length ∧ _
      rw [List.length_set]; exact h.ok.wait x hx
    · intro k hk
      have := h.lt k hk
      simp; omega
theorem crash_src (w : World) (i : Int) (d : List UInt8) : RdV (w.alloc (.cells (wC i d).toArray 107)).drew (some ⟨w.heap.size, 1, none⟩) (sC d) := by
  have h : Blk (w.alloc (.cells (wC i d).toArray 107)).drew w.heap.size 107 (wC i d) := Blk.new w 107 (wC i d).toArray
  exact h.rdv 1 (fun k hk => by rw [Nat.add_comm]; rfl)
theorem crash_fit {l : List (List UInt8)} {rest : List Value} (h : ∀ s ∈ l, s.length = 64) {a k : Nat} (ha : a < l.length) (hk : k ≤ 64) : a * 64 + k ≤ (lastC l ++ rest).length := by
  have := flat_len sC 64 l (fun s hs => by rw [sC_length]; exact h s hs)
  have h2 : (a + 1) * 64 ≤ l.length * 64 := Nat.mul_le_mul_right _ ha
  have h3 : (lastC l).length = l.length * 64 := this
  rw [List.length_append, h3]; omega
set_option maxRecDepth 100000 in
set_option maxHeartbeats 1600000 in
theorem crash_any (w : World) (S : Nat → Prop) (p : Nat) (st : DSt) (h : IsDisk w S p st) (keep tn : Int) :
    Calls Try.prog 32 #[.pointer (some ⟨p, 0, none⟩), .int .i64 keep, .int .i64 tn] w (VoidPost S p (st.crash keep tn) w) := by
  obtain ⟨lv, wv, hat⟩ := h
  obtain ⟨_, h1, _, _⟩ := hat.cells
  obtain ⟨wa, wc, rfl, _, _⟩ := hat.waits.shape
  have H := hid hat
  clear hat
  have hc := clamp_if keep st.waits.length
  have hle := clamp_le keep st.waits.length
  generalize hn : clampN keep st.waits.length = n at *
  have HN := hid hn
  clear hn
  go_enter Try.func32, Try.ntmps32
  go_wp2_with fail
  refine (settle_any w S p st ⟨_, _, H.out⟩ n hle).mono ?_
  rintro e w1 ⟨rfl, hd1, hm1⟩
  obtain ⟨lv1, wv1, hat1⟩ := hd1
  obtain ⟨c0, c1, _, _⟩ := hat1.cells
  obtain ⟨wa1, wc1, rfl, _, _⟩ := hat1.waits.shape
  have hwl : (st.settle n).waits.length = st.waits.length := rfl
  rw [hwl] at c1 hat1
  have H1 := hid hat1
  have HM1 := hid hm1
  clear hat1 hm1 h1 hc hwl
  by_cases hlt : n < st.waits.length
  · obtain ⟨x, hx⟩ : ∃ x, st.waits[n]? = some x := ⟨_, List.getElem?_eq_getElem hlt⟩
    have hs : st.crash keep tn = { last := ((st.settle n).tear x (clampN tn 64)).last, waits := [], armed := -1, down := false } := by
      unfold DSt.crash; rw [HN.out, DSt.crashed_some _ _ _ _ hx]
    have HS := hid hs
    clear hs
    have hc2 : imin (imax tn 0) 64 = ((clampN tn 64 : Nat) : Int) := clamp_if tn 64
    have hle2 := clamp_le tn 64
    generalize clampN tn 64 = tt at *
    have hkw : n < (st.settle n).waits.length := hlt
    obtain ⟨g, _, _, e, _⟩ := H1.out.waits.open1 (show 0 < st.waits.length by omega)
    obtain ⟨rfl, _, _⟩ : wa1 = some ⟨g, 0, none⟩ ∧ True ∧ True := by cases e; exact ⟨rfl, trivial, trivial⟩
    clear e
    obtain ⟨hld, L, lc, lrest, rfl, hb, hok⟩ := crash_round H1.out hkw hx
    obtain ⟨at', dd⟩ := x
    obtain ⟨hx1, hx2, hnext⟩ := hok
    simp only at hx1 hx2 hld hnext
    have hx1' : (at' : Int) < ((st.settle n).last.length : Int) := by omega
    have hplt := H1.out.obj.lt
    have hn' : (n : Int) < (st.waits.length : Int) := by omega
    have ht0 : (tt : Int) ≤ 64 := by omega
    have HB := hid hb
    have HX := hid hx
    have HNX := hid hnext
    clear hx hb hnext
    go_wp2_with fail
    refine wp_region_still_tail 13 (by kernel_rfl) (by kernel_rfl) ?_
    change wpStill _ _ (World.drew _) (fun a' => wpList _ _ _ _ a' (World.drew _)) _ _
    simp only [List.take_succ_cons, List.take_zero, List.drop_succ_cons, List.drop_zero]
    repeat still_step
    refine wpStill_nil ?_
    refine wpList_copy_blk rfl (.tmp 43) (.tmp 45) rfl (vs := sC dd) rfl rfl ((HB.out.alloc _).drew) (crash_src w1 at' dd) (by rw [sC_length, hx2]) (sC_ones dd) (crash_fit H1.out.ok.sec hx1 (by have : Nat.min 64 tt = tt := Nat.min_eq_right hle2; omega)) ?_
    have e : Nat.min 64 tt = tt := Nat.min_eq_right hle2
    rw [e]
    obtain ⟨hat2, hm2⟩ := HNX.out (.cells (wC (at' : Int) dd).toArray 107) tt hle2
    have H2 := hid hat2
    have HM2 := hid hm2
    clear hat2 hm2
    generalize putRow _ _ _ = w2 at *
    have f1 := H2.out.obj.free 1
    have f2 := H2.out.obj.free 2
    have f3 := H2.out.obj.free 3
    have d1 := H2.out.obj.is (i := 1) rfl
    have d2 := H2.out.obj.is (i := 2) rfl
    have d3 := H2.out.obj.is (i := 3) rfl
    clear c0 c1 hld hc2
    go_wp2_with fail
    go_end0
    rw [HS.out]
    exact crash_end H.out.own (HM1.out.trans HM2.out) H2.out
  · have hs : st.crash keep tn = { last := (st.settle n).last, waits := [], armed := -1, down := false } := by
      unfold DSt.crash; rw [HN.out, DSt.crashed_none _ _ _ (by omega)]
    have HS := hid hs
    clear hs
    have f1 := H1.out.obj.free 1
    have f2 := H1.out.obj.free 2
    have f3 := H1.out.obj.free 3
    have c2 := H1.out.obj.is (i := 2) rfl
    have c3 := H1.out.obj.is (i := 3) rfl
    go_wp2_with fail
    go_end0
    rw [HS.out]
    exact crash_end H.out.own HM1.out H1.out
end Go.Proofs.Ytdhhpnfdnoaihaa

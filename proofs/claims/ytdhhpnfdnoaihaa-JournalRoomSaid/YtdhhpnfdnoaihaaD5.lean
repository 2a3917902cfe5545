/- Disk.settle and Disk.Flush. -/
import Derived.StillTailTactics
import Derived.Test.YtdhhpnfdnoaihaaD4
namespace Go.Proofs.Ytdhhpnfdnoaihaa
open Go.RowKit

theorem flat_len {α : Type} (f : α → List Value) (s : Nat) (l : List α) (h : ∀ x ∈ l, (f x).length = s) : (l.flatMap f).length = l.length * s := by
  induction l with
  | nil => simp
  | cons x l ih =>
    rw [List.flatMap_cons, List.length_append, h x (by simp), ih (fun y hy => h y (by simp [hy])), List.length_cons, Nat.succ_mul, Nat.add_comm]
theorem flat_at {α : Type} (f : α → List Value) (s : Nat) (l : List α) (rest : List Value) (h : ∀ x ∈ l, (f x).length = s) : ∀ (k : Nat) (hk : k < l.length), ((l.flatMap f ++ rest).drop (k * s)).take s = f l[k] := by
  induction l with
  | nil => intro k hk; simp at hk
  | cons x l ih =>
    intro k hk
    have hx := h x (by simp)
    rw [List.flatMap_cons, List.append_assoc]
    cases k with
    | zero =>
      rw [Nat.zero_mul, List.drop_zero, List.take_append_of_le_length (by omega), List.take_of_length_le (by omega)]; rfl
    | succ k =>
      rw [show (k + 1) * s = (f x).length + k * s by rw [hx, Nat.succ_mul]; omega, List.drop_length_add_append]
      exact ih (fun y hy => h y (by simp [hy])) k (by simpa using hk)
theorem splice_skip {α : Type} (A X Y : List α) (o : Nat) : splice (A ++ X) (A.length + o) Y = A ++ splice X o Y := by
  unfold splice
  rw [List.take_length_add_append, Nat.add_assoc, List.drop_length_add_append, List.append_assoc]
theorem flat_set {α : Type} (f : α → List Value) (s : Nat) (y : α) (hy : (f y).length = s) (l : List α) (rest : List Value) (h : ∀ x ∈ l, (f x).length = s) : ∀ (k : Nat), k < l.length → splice (l.flatMap f ++ rest) (k * s) (f y) = (l.set k y).flatMap f ++ rest := by
  induction l with
  | nil => intro k hk; simp at hk
  | cons x l ih =>
    intro k hk
    have hx := h x (by simp)
    rw [List.flatMap_cons, List.append_assoc]
    cases k with
    | zero =>
      rw [List.set_cons_zero, List.flatMap_cons, List.append_assoc, Nat.zero_mul]
      unfold splice
      rw [List.take_zero, List.nil_append, Nat.zero_add, hy, ← hx, List.drop_left]
    | succ k =>
      rw [show (k + 1) * s = (f x).length + k * s by rw [hx, Nat.succ_mul]; omega, splice_skip, ih (fun z hz => h z (by simp [hz])) k (by simpa using hk), List.set_cons_succ, List.flatMap_cons, List.append_assoc]
@[go_sem] theorem ld105_new_drew (w : World) (n : Nat) (i : Int) (d : List UInt8) (hn : n = w.heap.size) (hd : d.length = 64) :
    ldRun 105 (.pointer (some ⟨n, 1, none⟩)) (w.alloc (.cells (wC i d).toArray 107)).drew = .ok (.value (Agg (sC d))) (w.alloc (.cells (wC i d).toArray 107)).drew :=
  ld105_new w.drew n i d hn hd

@[go_sem] theorem wC_get0 (i : Int) (d : List UInt8) (h : 0 < (wC i d).length) : (wC i d)[0]'h = .int .i64 i := rfl
def setAll (l : List (List UInt8)) (x : List (Nat × List UInt8)) : List (List UInt8) := x.foldl (fun l y => l.set y.1 y.2) l
theorem setAll_length (x : List (Nat × List UInt8)) : ∀ l, (setAll l x).length = l.length := by
  induction x with
  | nil => intro l; rfl
  | cons y x ih => intro l; show (setAll (l.set y.1 y.2) x).length = _; rw [ih, List.length_set]
theorem setAll_sec (x : List (Nat × List UInt8)) (hx : ∀ y ∈ x, y.2.length = 64) : ∀ l : List (List UInt8), (∀ s ∈ l, s.length = 64) → ∀ s ∈ setAll l x, s.length = 64 := by
  induction x with
  | nil => intro l hl; exact hl
  | cons y x ih =>
    intro l hl
    refine ih (fun z hz => hx z (by simp [hz])) _ (fun s hs => ?_)
    rcases List.mem_or_eq_of_mem_set hs with hs | rfl
    · exact hl s hs
    · exact hx y (by simp)
theorem setAll_snoc (l : List (List UInt8)) (x : List (Nat × List UInt8)) (y : Nat × List UInt8) : setAll l (x ++ [y]) = (setAll l x).set y.1 y.2 := by simp [setAll]
def DSt.settle (st : DSt) (n : Nat) : DSt := { st with last := setAll st.last (st.waits.take n) }
theorem DSt.settle_zero (st : DSt) : st.settle 0 = st := rfl
theorem DSt.settle_succ (st : DSt) (k : Nat) (h : k < st.waits.length) : st.settle (k + 1) = { st with last := (st.settle k).last.set st.waits[k].1 st.waits[k].2 } := by
  unfold DSt.settle
  rw [List.take_succ_eq_append_getElem h, setAll_snoc]
theorem DSt.settle_succ' (st : DSt) (k : Nat) (h : k < (st.settle k).waits.length) (a : Nat) (d : List UInt8) (hx : (st.settle k).waits[k] = (a, d)) :
    st.settle (k + 1) = { st with last := (st.settle k).last.set a d } := by
  have h' : k < st.waits.length := h
  have hx' : st.waits[k] = (a, d) := hx
  rw [DSt.settle_succ st k h', hx']
theorem DSt.Ok.settle {st : DSt} (h : st.Ok) (n : Nat) : (st.settle n).Ok where
  one := by show 1 ≤ (setAll _ _).length; rw [setAll_length]; exact h.one
  most := by show (setAll _ _).length ≤ _; rw [setAll_length]; exact h.most
  sec := setAll_sec _ (fun y hy => (h.wait y (List.mem_of_mem_take hy)).2) _ h.sec
  wait := fun x hx => by show x.1 < (setAll _ _).length ∧ _; rw [setAll_length]; exact h.wait x hx
  arm := h.arm
theorem sec_len {st : DSt} (h : st.Ok) : ∀ s ∈ st.last, (sC s).length = 64 := fun s hs => by rw [sC_length]; exact h.sec s hs
theorem wait_len {st : DSt} (h : st.Ok) : ∀ x ∈ st.waits, (wC x.1 x.2).length = 65 := fun x hx => by rw [wC_length, (h.wait x hx).2]
/-- what a round of settle reads and stores -/
theorem settle_round {w : World} {S : Nat → Prop} {p : Nat} {st : DSt} {g n c : Nat} {lv : Value} (h : DiskAt w S p st lv (.slice (some ⟨g, 0, none⟩) n c)) {k : Nat} (hk : k < st.waits.length) :
    ldRun 107 (.pointer (some ⟨g, k * 65, none⟩)) w = .ok (.value (Agg (wC st.waits[k].1 st.waits[k].2))) w ∧
    ∃ L lc lrest, lv = .slice (some ⟨L, 0, none⟩) st.last.length lc ∧ (∀ o, stRun 105 (.pointer (some ⟨L, st.waits[k].1 * 64, none⟩)) (Agg (sC st.waits[k].2)) (w.alloc o).drew = .ok .skip (putRow (w.alloc o).drew L (lastC (st.last.set st.waits[k].1 st.waits[k].2) ++ lrest))) ∧
      ∀ o, IsDisk (putRow (w.alloc o).drew L (lastC (st.last.set st.waits[k].1 st.waits[k].2) ++ lrest)) S p { st with last := st.last.set st.waits[k].1 st.waits[k].2 } ∧
        DiskAt (putRow (w.alloc o).drew L (lastC (st.last.set st.waits[k].1 st.waits[k].2) ++ lrest)) S p { st with last := st.last.set st.waits[k].1 st.waits[k].2 } lv (.slice (some ⟨g, 0, none⟩) n c) ∧
        Mod S w (putRow (w.alloc o).drew L (lastC (st.last.set st.waits[k].1 st.waits[k].2) ++ lrest)) := by
  have hmem : st.waits[k] ∈ st.waits := List.getElem_mem hk
  obtain ⟨h1, h2⟩ := h.ok.wait _ hmem
  have hsl := sec_len h.ok
  have hwl := wait_len h.ok
  obtain ⟨L, lc, lrest, rfl, hSL, hLb, hl1, hl2, hl3, hl4⟩ := h.lastv
  obtain ⟨g', wc, wrest, e, hSg, hgb, hw1, hw2, hw3, hw4⟩ := h.waits.open1 (by omega)
  obtain ⟨rfl, rfl, rfl⟩ : g = g' ∧ n = st.waits.length ∧ c = wc := by simpa using e
  have hlen : (lastC (st.last.set st.waits[k].1 st.waits[k].2)).length = st.last.length * 64 := by
    have := flat_len sC 64 (st.last.set st.waits[k].1 st.waits[k].2) (fun s hs => by
      rcases List.mem_or_eq_of_mem_set hs with hs | rfl
      · exact hsl s hs
      · rw [sC_length, h2])
    rw [List.length_set] at this; exact this
  refine ⟨?_, L, lc, lrest, rfl, ?_, ?_⟩
  · rw [ld_blk (n := 65) wide107 hgb ?_]
    · congr 3
      exact flat_at (fun x : Nat × List UInt8 => wC x.1 x.2) 65 st.waits wrest hwl k hk
    · have : (k + 1) * 65 ≤ st.waits.length * 65 := Nat.mul_le_mul_right _ hk
      rw [List.length_append, hw4]; omega
  · intro o
    have hb : Blk (w.alloc o).drew L 105 (lastC st.last ++ lrest) := (hLb.alloc o).drew
    rw [st_blk (n := 64) wide105 hb ?_ (by rw [sC_length, h2]) (sC_ones _)]
    · congr 2
      exact flat_set sC 64 st.waits[k].2 (by rw [sC_length, h2]) st.last lrest hsl _ h1
    · have : (st.waits[k].1 + 1) * 64 ≤ st.last.length * 64 := Nat.mul_le_mul_right _ h1
      rw [List.length_append, hl4]; omega
  · intro o
    have m0 : ∀ T, Mod T w (w.alloc o).drew := fun T => ((Mod.refl T w).alloc o).drew
    have hb : Blk (w.alloc o).drew L 105 (lastC st.last ++ lrest) := (hLb.alloc o).drew
    have m1 : Mod (fun k => k = L) (w.alloc o).drew (putRow (w.alloc o).drew L (lastC (st.last.set st.waits[k].1 st.waits[k].2) ++ lrest)) := Mod.put (S := fun k => k = L) (Mod.refl _ _) (.inl rfl) _
    have hd : DiskAt (putRow (w.alloc o).drew L (lastC (st.last.set st.waits[k].1 st.waits[k].2) ++ lrest)) S p { st with last := st.last.set st.waits[k].1 st.waits[k].2 } (.slice (some ⟨L, 0, none⟩) st.last.length lc) (.slice (some ⟨g, 0, none⟩) st.waits.length c) := by
      refine ⟨m1.blk (((h.obj.alloc o).drew)) (fun e => h.lp (by rw [e]; rfl)), h.own, ?_, ?_, h.lp, h.wp, h.lw, ⟨?_, ?_, ?_, ?_, h.ok.arm⟩, ?_⟩
      · refine ⟨⟨by show (lastC (st.last.set _ _)).length = (st.last.set _ _).length * 64; rw [hlen, List.length_set], .inr ⟨L, lc, _, ?_, Nat.zero_le _, hb.put _, ?_, hl2, ?_, ?_⟩⟩, fun g hg => h.last.2 g hg⟩
        · show _ = Value.slice _ (st.last.set _ _).length _; rw [List.length_set]
        · show (st.last.set _ _).length ≤ _; rw [List.length_set]; exact hl1
        · rw [List.size_toArray, List.length_append, hlen, ← hl4, ← List.length_append]; exact hl3
        · show List.take ((st.last.set _ _).length * 64) _ = _
          rw [List.length_set, List.toList_toArray, ← hlen, List.take_left]
      · exact (h.waits.kept (m0 None) (fun _ _ h => h) (fun _ h => h)).kept m1 (fun g hg e => h.lw L rfl (by rw [hg, e])) (fun _ h => h)
      · show 1 ≤ (st.last.set _ _).length; rw [List.length_set]; exact h.ok.one
      · show (st.last.set _ _).length ≤ _; rw [List.length_set]; exact h.ok.most
      · intro s hs
        rcases List.mem_or_eq_of_mem_set hs with hs | rfl
        · exact h.ok.sec s hs
        · exact h2
      · intro x hx
        show x.1 < (st.last.set _ _).length ∧ _
        rw [List.length_set]; exact h.ok.wait x hx
      · intro k hk
        have := h.lt k hk
        simp; omega
    exact ⟨⟨_, _, hd⟩, hd, (m0 S).then m1 (fun k _ e => by subst e; exact hSL)⟩

set_option maxRecDepth 100000 in
set_option maxHeartbeats 800000 in
theorem settle_any (w : World) (S : Nat → Prop) (p : Nat) (st : DSt) (h : IsDisk w S p st) (n : Nat) (hn : n ≤ st.waits.length) :
    Calls Try.prog 65 #[.pointer (some ⟨p, 0, none⟩), .int .i64 (n : Int)] w (DiskPost (.tuple #[]) S p (st.settle n) S w) := by
  obtain ⟨lv, wv, h⟩ := h
  obtain ⟨_, h1, _, _⟩ := h.cells
  have H := hid h
  obtain ⟨wa, wc, rfl, hwc, hwm⟩ := h.waits.shape
  clear h
  have hn0 : (n : Int) ≤ (wc : Int) := by omega
  unfold maxLen at hwm
  go_enter Try.func65, Try.ntmps65
  go_wp2
  clear h1
  go_loopw [13] (fun i wr => ∃ k : Nat, k ≤ n ∧ i = .int .i64 k ∧ Hid (DiskAt wr S p (st.settle k) lv (.slice wa st.waits.length wc)) ∧ Hid (Mod S w wr)) (fun i _ => n - (intOf i).toNat)
  case atStart => exact ⟨0, by omega, rfl, H.out, Mod.refl _ _⟩
  case round =>
    obtain ⟨k, hk, rfl, hat, hmd⟩ := hrel
    by_cases hlt : k < n
    · have hkw : k < (st.settle k).waits.length := by show k < st.waits.length; omega
      have ha0 := hat.out.waits.open1 (show 0 < (st.settle k).waits.length by omega)
      obtain ⟨g, _, _, e, _⟩ := ha0
      obtain ⟨rfl, _, _⟩ : wa = some ⟨g, 0, none⟩ ∧ True ∧ True := by cases e; exact ⟨rfl, trivial, trivial⟩
      clear e
      obtain ⟨hld, L, lc, lrest, rfl, hst, hnext⟩ := settle_round hat.out hkw
      obtain ⟨hc0, _, _, _⟩ := hat.out.cells
      have hwk := (hat.out.ok.wait _ (List.getElem_mem hkw))
      have hplt := hat.out.obj.lt
      have HN := hid hnext
      generalize hx : (st.settle k).waits[k] = x at *
      obtain ⟨at', dd⟩ := x
      obtain ⟨hx1, hx2⟩ := hwk
      simp only at hx1 hx2 hld hst
      have hx1' : (at' : Int) < ((st.settle k).last.length : Int) := by omega
      go_wp2
      refine wp_region_still_tail 9 (by kernel_rfl) (by kernel_rfl) ?_
      change wpStill _ _ (World.drew _) (fun a' => wpList _ _ _ _ a' (World.drew _)) _ _
      simp only [List.take_succ_cons, List.take_zero, List.drop_succ_cons, List.drop_zero]
      repeat still_step
      refine wpStill_nil ?_
      go_wp2
      have HS := hid (DSt.settle_succ' st k hkw at' dd hx)
      go_roundw
      case rel => exact ⟨k + 1, by omega, by go_num, by rw [HS.out]; exact (HN.out _).2.1, hmd.out.trans (HN.out _).2.2⟩
      case measure => simp [intOf]; omega
    · obtain rfl : k = n := by omega
      go_wp2
      go_end0
      exact ⟨rfl, ⟨_, _, hat.out⟩, hmd.out⟩

def DSt.flush (st : DSt) : DSt × Int := if st.down then (st, 32) else (({ st.settle st.waits.length with waits := [] } : DSt).changed, 0)
def FlushPost (S : Nat → Prop) (p : Nat) (r : DSt × Int) (w : World) (e : Ending) (w' : World) : Prop :=
  e = .returned (.int .i64 r.2) ∧ IsDisk w' S p r.1 ∧ Mod S w w'
/-- the waiting writes are struck -/
theorem DiskAt.struck {w w' : World} {S : Nat → Prop} {p : Nat} {st : DSt} {lv wv : Value} (h : DiskAt w S p st lv wv) (hm : Mod (fun k => k = p) w w') {a : Int} {d : Bool}
    (hb : Blk w' p 102 [lv, .slice none 0 0, .int .i64 a, .bool d]) (ha : -1 ≤ a ∧ a ≤ 9223372036854775807) : DiskAt w' S p { last := st.last, waits := [], armed := a, down := d } lv (.slice none 0 0) where
  obj := hb
  own := h.own
  last := h.last.kept hm (fun g hg e => h.lp (by rw [hg, e])) (fun _ h => h)
  waits := ⟨World.ownsRow_nil _ _ _ _, fun g hg => by cases hg⟩
  lp := h.lp
  wp := fun e => by cases e
  lw := fun g _ e => by cases e
  ok := ⟨h.ok.one, h.ok.most, h.ok.sec, (fun x hx => by cases hx), ha⟩
  lt := fun k hk => Nat.lt_of_lt_of_le (h.lt k hk) hm.size
set_option maxHeartbeats 400000 in
theorem flush_any (w : World) (S : Nat → Prop) (p : Nat) (st : DSt) (h : IsDisk w S p st) :
    Calls Try.prog 29 #[.pointer (some ⟨p, 0, none⟩)] w (FlushPost S p st.flush w) := by
  by_cases hd : st.down = true
  · have hf : st.flush = (st, 32) := by unfold DSt.flush; rw [if_pos hd]
    rw [hf]
    obtain ⟨lv, wv, hat⟩ := h
    obtain ⟨_, _, _, h3⟩ := hat.cells
    have H := hid hat
    clear hat hf
    rw [hd] at h3
    clear hd
    go_enter Try.func29, Try.ntmps29
    go_wp2
    go_ret
    exact ⟨rfl, ⟨_, _, H.out⟩, Mod.refl _ _⟩
  · have hf : st.flush = (({ st.settle st.waits.length with waits := [] } : DSt).changed, 0) := by unfold DSt.flush; rw [if_neg hd]
    rw [hf]
    obtain ⟨lv, wv, hat⟩ := h
    obtain ⟨_, h1, _, h3⟩ := hat.cells
    obtain ⟨wa, wc, rfl, _, _⟩ := hat.waits.shape
    have H := hid hat
    clear hat hf
    rw [Bool.not_eq_true] at hd
    rw [hd] at h3
    clear hd
    go_enter Try.func29, Try.ntmps29
    go_wp2_with fail
    refine (settle_any w S p st ⟨_, _, H.out⟩ st.waits.length (Nat.le_refl _)).mono ?_
    rintro e w1 ⟨rfl, hd1, hm1⟩
    obtain ⟨lv1, wv1, hat1⟩ := hd1
    obtain ⟨_, c1, _, _⟩ := hat1.cells
    have f1 := hat1.obj.free 1
    have H1 := hid hat1
    have HM1 := hid hm1
    clear hat1 hm1 h1 h3
    go_wp2_with fail
    have hm2 : Mod (fun k => k = p) w1 (w1.setCell ⟨p, 1, none⟩ (.slice none 0 0)) := Mod.set (S := fun k => k = p) (Mod.refl _ _) (.inl rfl) _
    have HM2 := hid hm2
    have HD2 := hid (H1.out.struck hm2 (H1.out.obj.set 1 _) H1.out.ok.arm)
    clear hm2 c1 f1
    refine (changed_any _ S p _ ⟨_, _, HD2.out⟩).mono ?_
    rintro e w5 ⟨rfl, hd5, hm5⟩
    have HD5 := hid hd5
    have HM5 := hid hm5
    clear hd5 hm5
    go_wp2_with fail
    go_ret
    exact ⟨rfl, HD5.out, (HM1.out.then HM2.out (fun k _ e => by subst e; exact H.out.own)).then HM5.out (fun k _ e => by subst e; exact H.out.own)⟩
end Go.Proofs.Ytdhhpnfdnoaihaa

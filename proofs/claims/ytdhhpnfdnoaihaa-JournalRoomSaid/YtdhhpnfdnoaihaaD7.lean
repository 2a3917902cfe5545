/- Disk.Read. -/
import Derived.Test.YtdhhpnfdnoaihaaD6
namespace Go.Proofs.Ytdhhpnfdnoaihaa
open Go.RowKit

theorem DiskAt.keep {w w' : World} {S T : Nat → Prop} {p : Nat} {st : DSt} {lv wv : Value} (h : DiskAt w S p st lv wv) (hm : Mod T w w') (hT : ∀ k, S k → ¬ T k) : DiskAt w' S p st lv wv where
  obj := hm.blk h.obj (hT p h.own)
  own := h.own
  last := h.last.kept hm (fun g hg => hT g (h.last.2 g hg)) (fun _ h => h)
  waits := h.waits.kept hm (fun g hg => hT g (h.waits.2 g hg)) (fun _ h => h)
  lp := h.lp
  wp := h.wp
  lw := h.lw
  ok := h.ok
  lt := fun k hk => Nat.lt_of_lt_of_le (h.lt k hk) hm.size
theorem IsDisk.keep {w w' : World} {S T : Nat → Prop} {p : Nat} {st : DSt} (h : IsDisk w S p st) (hm : Mod T w w') (hT : ∀ k, S k → ¬ T k) : IsDisk w' S p st := by
  obtain ⟨lv, wv, h⟩ := h
  exact ⟨lv, wv, h.keep hm hT⟩

def readTo (l : List (Nat × List UInt8)) (k : Nat) (d : List UInt8) : List UInt8 := l.foldl (fun d x => if x.1 = k then x.2 else d) d
theorem readTo_length (k : Nat) : ∀ (l : List (Nat × List UInt8)) (d : List UInt8), d.length = 64 → (∀ x ∈ l, x.2.length = 64) → (readTo l k d).length = 64
  | [], d, hd, _ => hd
  | x :: l, d, hd, h => by
    show (readTo l k (if x.1 = k then x.2 else d)).length = 64
    refine readTo_length k l _ ?_ (fun y hy => h y (by simp [hy]))
    split
    · exact h x (by simp)
    · exact hd
theorem readTo_snoc (l : List (Nat × List UInt8)) (x : Nat × List UInt8) (k : Nat) (d : List UInt8) : readTo (l ++ [x]) k d = if x.1 = k then x.2 else readTo l k d := by
  simp [readTo]
def DSt.read (st : DSt) (i : Int) : List UInt8 × Int :=
  if st.may i = 0 then (readTo st.waits i.toNat (st.last.getD i.toNat []), 0) else ([], st.may i)
/-- what is told is new memory -/
def Told (w w' : World) (a : Option Addr) (d : List UInt8) : Prop :=
  (a = none ∧ d = []) ∨ ∃ b, a = some ⟨b, 0, none⟩ ∧ w.heap.size ≤ b ∧ Blk w' b 105 (sC d)
def ReadPost (r : List UInt8 × Int) (w : World) (e : Ending) (w' : World) : Prop :=
  ∃ a, e = .returned (.tuple #[.slice a r.1.length r.1.length, .int .i64 r.2]) ∧ Told w w' a r.1 ∧ Mod None w w'

theorem may_range {st : DSt} {i : Int} (h : st.may i = 0) : 0 ≤ i ∧ i < st.last.length ∧ st.down = false := by
  unfold DSt.may at h
  split at h
  · omega
  · rename_i hd
    split at h
    · omega
    · exact ⟨by omega, by omega, by simpa using hd⟩
theorem last_ld {w : World} {S : Nat → Prop} {p : Nat} {st : DSt} {lv wv : Value} (h : DiskAt w S p st lv wv) {k : Nat} (hk : k < st.last.length) :
    ∃ L lc, lv = .slice (some ⟨L, 0, none⟩) st.last.length lc ∧ ldRun 105 (.pointer (some ⟨L, k * 64, none⟩)) w = .ok (.value (Agg (sC (st.last.getD k [])))) w := by
  have hsl := sec_len h.ok
  obtain ⟨L, lc, lrest, rfl, hSL, hLb, hl1, hl2, hl3, hl4⟩ := h.lastv
  refine ⟨L, lc, rfl, ?_⟩
  rw [ld_blk (n := 64) wide105 hLb ?_]
  · congr 3
    rw [List.getD_eq_getElem?_getD, List.getElem?_eq_getElem hk]
    exact flat_at sC 64 st.last lrest hsl k hk
  · have : (k + 1) * 64 ≤ st.last.length * 64 := Nat.mul_le_mul_right _ hk
    rw [List.length_append, hl4]; omega
theorem wait_ld {w : World} {S : Nat → Prop} {p : Nat} {st : DSt} {g n c : Nat} {lv : Value} (h : DiskAt w S p st lv (.slice (some ⟨g, 0, none⟩) n c)) {k : Nat} (hk : k < st.waits.length) :
    ldRun 107 (.pointer (some ⟨g, k * 65, none⟩)) w = .ok (.value (Agg (wC st.waits[k].1 st.waits[k].2))) w := by
  have hwl := wait_len h.ok
  obtain ⟨g', wc, wrest, e, hSg, hgb, hw1, hw2, hw3, hw4⟩ := h.waits.open1 (by omega)
  obtain ⟨rfl, rfl, rfl⟩ : g = g' ∧ n = st.waits.length ∧ c = wc := by simpa using e
  rw [ld_blk (n := 65) wide107 hgb ?_]
  · congr 3
    exact flat_at (fun x : Nat × List UInt8 => wC x.1 x.2) 65 st.waits wrest hwl k hk
  · have : (k + 1) * 65 ≤ st.waits.length * 65 := Nat.mul_le_mul_right _ hk
    rw [List.length_append, hw4]; omega
theorem st_var {w : World} {b : Nat} {cur d : List UInt8} (h : Blk w b 105 (sC cur)) (hc : cur.length = 64) (hd : d.length = 64) (o : Obj) :
    stRun 105 (.pointer (some ⟨b, 0, none⟩)) (Agg (sC d)) (w.alloc o) = .ok .skip (putRow (w.alloc o) b (sC d)) := by
  rw [st_blk (n := 64) wide105 (h.alloc o) (by rw [sC_length]; omega) (by rw [sC_length, hd]) (sC_ones d)]
  rw [splice_all _ _ (by rw [sC_length, sC_length, hc, hd])]

set_option maxRecDepth 100000 in
set_option maxHeartbeats 1600000 in
theorem read_any (w : World) (S : Nat → Prop) (p : Nat) (st : DSt) (h : IsDisk w S p st) (i : Int) :
    Calls Try.prog 33 #[.pointer (some ⟨p, 0, none⟩), .int .i64 i] w (ReadPost (st.read i) w) := by
  by_cases hm : st.may i = 0
  · have hw : st.read i = (readTo st.waits i.toNat (st.last.getD i.toNat []), 0) := by unfold DSt.read; rw [if_pos hm]
    rw [hw]
    have HM := hid hm
    obtain ⟨hi0, hi1, _⟩ := may_range hm
    obtain ⟨k, rfl⟩ : ∃ k : Nat, i = (k : Int) := ⟨i.toNat, by omega⟩
    have hk : k < st.last.length := by omega
    rw [Int.toNat_natCast]
    clear hm hw hi0
    obtain ⟨lv, wv, hat⟩ := h
    obtain ⟨h0, h1, _, _⟩ := hat.cells
    obtain ⟨L, lc, rfl, hld⟩ := last_ld hat hk
    obtain ⟨wa, wc, rfl, hwc, hwm⟩ := hat.waits.shape
    unfold maxLen at hwm
    have hplt := hat.obj.lt
    have hsl : (st.last.getD k []).length = 64 := by
      rw [List.getD_eq_getElem?_getD, List.getElem?_eq_getElem hk]; exact hat.ok.sec _ (List.getElem_mem hk)
    have hws : ∀ x ∈ st.waits, x.2.length = 64 := fun x hx => (hat.ok.wait x hx).2
    have HWS := hid hws
    have H := hid hat
    clear hat hws
    generalize st.last.getD k [] = d0 at *
    go_enter Try.func33, Try.ntmps33
    go_wp2_with fail
    refine (may_any _ S p st ⟨_, _, H.out⟩ k).mono ?_
    rintro e w' ⟨rfl, rfl⟩
    rw [HM.out]
    go_wp2_with fail
    have hb0 : Blk (w.alloc (.cells (sC d0).toArray 105)) w.heap.size 105 (sC d0) := Blk.new w 105 _
    have hm0 : Mod None w (w.alloc (.cells (sC d0).toArray 105)) := (Mod.refl None w).alloc _
    have HB0 := hid hb0
    have HM0 := hid hm0
    clear hb0 hm0 hld h0 h1
    generalize w.alloc (.cells (sC d0).toArray 105) = w1 at *
    go_loopw [28] (fun i wr => ∃ j : Nat, j ≤ st.waits.length ∧ i = .int .i64 j ∧ Hid (Blk wr w.heap.size 105 (sC (readTo (st.waits.take j) k d0))) ∧ Hid (Mod None w wr)) (fun i _ => st.waits.length - (intOf i).toNat)
    case atStart => exact ⟨0, by omega, rfl, HB0.out, HM0.out⟩
    case round =>
      obtain ⟨j, hj, rfl, hb, hmd⟩ := hrel
      by_cases hlt : j < st.waits.length
      · obtain ⟨g, _, _, e, _⟩ := H.out.waits.open1 (show 0 < st.waits.length by omega)
        obtain ⟨rfl, _, _⟩ : wa = some ⟨g, 0, none⟩ ∧ True ∧ True := by cases e; exact ⟨rfl, trivial, trivial⟩
        clear e
        have hat' := H.out.keep hmd.out (fun _ _ h => h)
        have hld := wait_ld hat' hlt
        have hwk := hat'.ok.wait _ (List.getElem_mem hlt)
        have hcur := readTo_length k (st.waits.take j) d0 hsl (fun x hx => HWS.out x (List.mem_of_mem_take hx))
        have hnx : readTo (st.waits.take (j + 1)) k d0 = if st.waits[j].1 = k then st.waits[j].2 else readTo (st.waits.take j) k d0 := by
          rw [List.take_succ_eq_append_getElem hlt, readTo_snoc]
        have HNX := hid hnx
        clear hat' hnx
        generalize hx : st.waits[j] = x at *
        obtain ⟨at', dd⟩ := x
        obtain ⟨hx1, hx2⟩ := hwk
        simp only at hx1 hx2 hld HNX
        generalize readTo (st.waits.take j) k d0 = cur at *
        have hst := fun o => st_var hb.out hcur hx2 o
        have HX := hid hx
        clear hx hcur
        by_cases hk' : at' = k
        · have hk2 : (at' : Int) = (k : Int) := by omega
          have HN : Hid (readTo (st.waits.take (j + 1)) k d0 = dd) := by rw [HNX.out, if_pos hk']; exact rfl
          clear hk'
          go_wp2
          go_roundw
          case rel => exact ⟨j + 1, by omega, by go_num, by rw [HN.out]; exact (hb.out.alloc _).put _, (hmd.out.alloc _).put (.inr (Nat.le_refl _)) _⟩
          case measure => simp [intOf]; omega
        · have hk2 : ¬ (at' : Int) = (k : Int) := by omega
          have HN : Hid (readTo (st.waits.take (j + 1)) k d0 = cur) := by rw [HNX.out, if_neg hk']; exact rfl
          clear hk'
          go_wp2
          go_roundw
          case rel => exact ⟨j + 1, by omega, by go_num, by rw [HN.out]; exact hb.out.alloc _, hmd.out.alloc _⟩
          case measure => simp [intOf]; omega
      · obtain rfl : j = st.waits.length := by omega
        go_wp2
        go_ret2
        have e : st.waits.take st.waits.length = st.waits := List.take_length
        rw [e] at hb
        have hl := readTo_length k st.waits d0 hsl HWS.out
        refine ⟨some ⟨w.heap.size, 0, none⟩, ?_, .inr ⟨_, rfl, Nat.le_refl _, hb.out⟩, hmd.out⟩
        rw [hl]; rfl
  · have hw : st.read i = ([], st.may i) := by unfold DSt.read; rw [if_neg hm]
    rw [hw]
    have hne : (st.may i != 0) = true := by rw [bne_iff_ne]; exact hm
    clear hm hw
    have H := hid h
    clear h
    generalize hx : st.may i = x at *
    have HX := hid hx
    clear hx
    go_enter Try.func33, Try.ntmps33
    go_wp2_with fail
    refine (may_any _ S p st H.out i).mono ?_
    rintro e w' ⟨rfl, rfl⟩
    rw [HX.out]
    go_wp2_with fail
    go_ret2
    exact ⟨none, rfl, .inl ⟨rfl, rfl⟩, Mod.refl _ _⟩
end Go.Proofs.Ytdhhpnfdnoaihaa

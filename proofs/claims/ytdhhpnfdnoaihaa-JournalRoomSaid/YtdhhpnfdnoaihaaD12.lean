/- Disk.Clone. -/
import Derived.Test.YtdhhpnfdnoaihaaD11
namespace Go.Proofs.Ytdhhpnfdnoaihaa
open Go.RowKit

def DClone (st : DSt) (w : World) (e : Ending) (w' : World) : Prop :=
  ∃ q S', e = .returned (.pointer (some ⟨q, 0, none⟩)) ∧ IsDisk w' S' q st ∧ Mod None w w' ∧ ∀ k, S' k → w.heap.size ≤ k
theorem lastC_ones (l : List (List UInt8)) : Ones (lastC l) := by
  intro v hv
  obtain ⟨x, _, hx⟩ := List.mem_flatMap.1 hv
  exact sC_ones x v hx
theorem waitC_ones (l : List (Nat × List UInt8)) : Ones (waitC l) := by
  intro v hv
  obtain ⟨x, _, hx⟩ := List.mem_flatMap.1 hv
  exact wC_ones x.1 x.2 v hx
theorem owns_blocks {w : World} {e size n : Nat} {v : Value} {xs : List Value} (h : w.ownsRow 0 e size v n xs) : ∀ g, v.ownBlock = some g → g < w.heap.size := fun g hg => (h.lt g hg).2
/-- the clone, joined -/
theorem clone_join {w w5 w6 : World} {q : Nat} {st : DSt} {la wa : Option Addr} {lc wc : Nat} (hok : st.Ok) (hq : q = w.heap.size) (hw5 : Mod None w w5) (hobj : Blk w5 q 102 [.slice la st.last.length lc, .slice wa st.waits.length wc, .int .i64 st.armed, .bool st.down])
    (hl : OwnR w5 (fun k => w.heap.size < k ∧ k < w5.heap.size) 105 64 (.slice la st.last.length lc) st.last.length (lastC st.last)) (hw : OwnR w5 (fun k => w.heap.size < k ∧ k < w5.heap.size) 107 65 (.slice wa st.waits.length wc) st.waits.length (waitC st.waits))
    (hd : ∀ g, (Value.slice la st.last.length lc).ownBlock = some g → (Value.slice wa st.waits.length wc).ownBlock ≠ some g) (he : w6 = w5) : DClone st w (.returned (.pointer (some ⟨q, 0, none⟩))) w6 := by
  subst he hq
  have hlt := hobj.lt
  refine ⟨_, fun k => w.heap.size ≤ k ∧ k < w6.heap.size, rfl, ⟨_, _, hobj, ⟨Nat.le_refl _, hlt⟩, ⟨hl.1, fun g hg => ?_⟩, ⟨hw.1, fun g hg => ?_⟩, fun e => ?_, fun e => ?_, hd, hok, fun k hk => hk.2⟩, hw5, fun k hk => hk.1⟩
  · have := hl.2 g hg; omega
  · have := hw.2 g hg; omega
  · have := hl.2 _ e; omega
  · have := hw.2 _ e; omega

theorem clone_done {w w1 w2 w3 : World} {st : DSt} {la wa la2 wa3 : Option Addr} {lc wc lc2 wc3 : Nat} (hok : st.Ok) (hm1 : Mod None w w1) (hb1 : Blk w1 w.heap.size 102 [.slice la st.last.length lc, .slice wa st.waits.length wc, .int .i64 st.armed, .bool st.down])
    (hm2 : Mod None w1.drew w2) (hm3 : Mod None w2 w3) (ho2 : w2.ownsRow 0 105 64 (.slice la2 st.last.length lc2) st.last.length (lastC st.last)) (hn2 : ∀ g, (Value.slice la2 st.last.length lc2).ownBlock = some g → w1.drew.heap.size ≤ g)
    (ho3 : w3.ownsRow 0 107 65 (.slice wa3 st.waits.length wc3) st.waits.length (waitC st.waits)) (hn3 : ∀ g, (Value.slice wa3 st.waits.length wc3).ownBlock = some g → w2.heap.size ≤ g) :
    DClone st w (.returned (.pointer (some ⟨w.heap.size, 0, none⟩))) ((w3.setCell ⟨w.heap.size, 0, none⟩ (.slice la2 st.last.length lc2)).setCell ⟨w.heap.size, 1, none⟩ (.slice wa3 st.waits.length wc3)) := by
  have hlt : w.heap.size < w1.drew.heap.size := hb1.lt
  have hb3 := hm3.blk (hm2.blk (hb1.drew) (fun h => h)) (fun h => h)
  have m3 : Mod None w w3 := (hm1.drew.trans hm2).trans hm3
  have ms : Mod (fun k => k = w.heap.size) w3 ((w3.setCell ⟨w.heap.size, 0, none⟩ (.slice la2 st.last.length lc2)).setCell ⟨w.heap.size, 1, none⟩ (.slice wa3 st.waits.length wc3)) :=
    Mod.set (S := fun k => k = w.heap.size) (Mod.set (S := fun k => k = w.heap.size) (Mod.refl _ _) (.inl rfl) _) (.inl rfl) _
  have s23 := hm3.size
  have s12 := hm2.size
  have ol2 := owns_blocks ho2
  have ol3 := owns_blocks ho3
  have m5 : Mod None w ((w3.setCell ⟨w.heap.size, 0, none⟩ (.slice la2 st.last.length lc2)).setCell ⟨w.heap.size, 1, none⟩ (.slice wa3 st.waits.length wc3)) := m3.then ms (fun i hi e => by omega)
  have a2 : OwnR w2 (fun k => w.heap.size < k ∧ k < w3.heap.size) 105 64 (.slice la2 st.last.length lc2) st.last.length (lastC st.last) := ⟨ho2, fun g hg => by have := hn2 g hg; have := ol2 g hg; omega⟩
  have a3 : OwnR w3 (fun k => w.heap.size < k ∧ k < w3.heap.size) 107 65 (.slice wa3 st.waits.length wc3) st.waits.length (waitC st.waits) := ⟨ho3, fun g hg => by have := hn3 g hg; have := ol3 g hg; omega⟩
  refine clone_join hok rfl m5 ((hb3.set 0 _).set 1 _) ?_ ?_ (fun g h h' => ?_) rfl
  · have b2 := (a2.kept hm3 (fun _ _ h => h) (fun _ h => h)).kept (S' := fun k => w.heap.size < k ∧ k < w3.heap.size) ms (fun g hg e => by have := hn2 g hg; omega) (fun _ h => h)
    simpa using b2
  · have b3 := a3.kept (S' := fun k => w.heap.size < k ∧ k < w3.heap.size) ms (fun g hg e => by have := hn3 g hg; omega) (fun _ h => h)
    simpa using b3
  · have := ol2 g h
    have := hn3 g h'
    omega
set_option maxRecDepth 100000 in
set_option maxHeartbeats 1600000 in
theorem dclone_any (w : World) (S : Nat → Prop) (p : Nat) (st : DSt) (h : IsDisk w S p st) (hroom : st.waits.length < 3000000000000) :
    Calls Try.prog 35 #[.pointer (some ⟨p, 0, none⟩)] w (DClone st w) := by
  obtain ⟨lv, wv, hat⟩ := h
  obtain ⟨h0, h1, h2, h3⟩ := hat.cells
  obtain ⟨la, lc, rfl, _, _⟩ := hat.last.shape
  obtain ⟨wa, wc, rfl, _, _⟩ := hat.waits.shape
  have hplt := hat.obj.lt
  have H := hid hat
  clear hat
  go_enter Try.func35, Try.ntmps35
  go_wp2_with fail
  have hb1 : Blk (w.alloc (.cells #[.slice la st.last.length lc, .slice wa st.waits.length wc, .int .i64 st.armed, .bool st.down] 102)) w.heap.size 102 [.slice la st.last.length lc, .slice wa st.waits.length wc, .int .i64 st.armed, .bool st.down] := Blk.new w 102 _
  have hm1 : Mod None w (w.alloc (.cells #[.slice la st.last.length lc, .slice wa st.waits.length wc, .int .i64 st.armed, .bool st.down] 102)) := (Mod.refl None w).alloc _
  generalize w.alloc (.cells #[.slice la st.last.length lc, .slice wa st.waits.length wc, .int .i64 st.armed, .bool st.down] 102) = w1 at *
  have HB1 := hid hb1
  have HM1 := hid hm1
  have hat1 := H.out.keep hm1 (fun _ _ h => h)
  obtain ⟨g0, g1, _, _⟩ := hat1.cells
  have hplt1 := hat1.obj.lt
  have HAT1 := hid hat1
  have HR := hid hroom
  have HOK := hid H.out.ok
  have HL99 := hid (fun W (hm : Mod None w1.drew W) => OwnR.rdv ((hat1.last.kept (Mod.refl None w1).drew (fun _ _ h => h) (fun _ h => h)).kept hm (fun _ _ h => h) (fun _ h => h)) rfl)
  have HL100 := hid (fun W (hm : Mod None w1.drew W) => OwnR.rdv ((hat1.waits.kept (Mod.refl None w1).drew (fun _ _ h => h) (fun _ h => h)).kept hm (fun _ _ h => h) (fun _ h => h)) rfl)
  have HLEN := hid (And.intro hat1.last.1.1 hat1.waits.1.1)
  clear h0 h1 h2 h3 hat1 hb1 hm1 hroom hplt
  go_region_with (first
    | (go_at_call 68; go_loud (refine (clone99_any w1.drew la _ lc (lastC st.last) HLEN.out.1 (HL99.out _ (Mod.refl _ _)) (lastC_ones _) HOK.out.most HOK.out.one).mono ?_); rintro e w2 ⟨la2, lc2, rfl, ho2, hm2, hn2⟩; have g12 := ((HAT1.out.keep (T := None) (Mod.refl None w1).drew (fun _ _ h => h)).keep hm2 (fun _ _ h => h)).cells.2.1; have HM2 := hid hm2; have HO2 := hid ho2; have HN2 := hid hn2; clear hm2 ho2 hn2)
    | (go_at_call 69; go_loud (refine (clone100_any w2 wa _ wc (waitC st.waits) HLEN.out.2 (HL100.out _ HM2.out) (waitC_ones _) HR.out).mono ?_); rintro e w3 ⟨wa3, wc3, rfl, ho3, hm3, hn3⟩; have hb3 := hm3.blk (HM2.out.blk (HB1.out.drew) (fun h => h)) (fun h => h); have f0 := hb3.free 0; have f1 := hb3.free 1; have d0 := hb3.is (i := 0) rfl; have d1 := hb3.is (i := 1) rfl; have hqlt := hb3.lt; have HB3 := hid hb3; have HM3 := hid hm3; have HO3 := hid ho3; have HN3 := hid hn3; clear hb3 hm3 ho3 hn3))
  all_goals
    go_wp2
    go_ret
    exact clone_done HOK.out HM1.out HB1.out HM2.out HM3.out HO2.out HN2.out HO3.out HN3.out
end Go.Proofs.Ytdhhpnfdnoaihaa

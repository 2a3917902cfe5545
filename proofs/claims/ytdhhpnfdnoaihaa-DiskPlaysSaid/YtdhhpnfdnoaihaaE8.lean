/- A disk and the document's, side by side. -/
import Derived.Test.YtdhhpnfdnoaihaaE7
namespace Go.Proofs.Ytdhhpnfdnoaihaa
open Go.RowKit

structure Play (w wr : World) (S T : Nat → Prop) (p q N : Nat) (sd sm : DSt) (v : Nat) (cs : List Value) : Prop where
  live : Live w wr S p sd
  ref : IsRef wr T q N sm
  dis : ∀ k, S k → ¬ T k
  new : ∀ k, T k → w.heap.size ≤ k
  var : Blk wr v 47 cs
  vS : ¬ S v
  vT : ¬ T v
section
variable {w wr w' : World} {S T : Nat → Prop} {p q N v : Nat} {sd sm : DSt} {cs : List Value}
theorem Play.step (h : Play w wr S T p q N sd sm v cs) (hm : Mod None wr w') : Play w w' S T p q N sd sm v cs :=
  ⟨h.live.step hm, h.ref.keep hm (fun _ _ h => h), h.dis, h.new, hm.blk h.var (fun h => h), h.vS, h.vT⟩
theorem Play.left {S' : Nat → Prop} {p' : Nat} {sd' : DSt} (h : Play w wr S T p q N sd sm v cs) (hl : Live w w' S' p' sd') (ht : Turn S S' wr w') : Play w w' S' T p' q N sd' sm v cs :=
  ⟨hl, h.ref.keep ht.mod (fun k hk hs => h.dis k hs hk), fun k hs hk => h.dis k (ht.old k (h.ref.lt k hk) hs) hk, h.new, ht.mod.blk h.var h.vS, fun hs => h.vS (ht.old v h.var.lt hs), h.vT⟩
theorem Play.right {T' : Nat → Prop} {N' : Nat} {sm' : DSt} (h : Play w wr S T p q N sd sm v cs) (hr : IsRef w' T' q N' sm') (ht : Turn T T' wr w') (hn : ∀ k, T' k → w.heap.size ≤ k) : Play w w' S T' p q N' sd sm' v cs := by
  obtain ⟨h1, h2⟩ := h.live.turn ht h.dis h.new
  exact ⟨h1, hr, h2, hn, ht.mod.blk h.var h.vT, h.vS, fun hs => h.vT (ht.old v h.var.lt hs)⟩
theorem Play.same {T0 : Nat → Prop} {sm' : DSt} (h : Play w wr S T p q N sd sm v cs) (hr : IsRef w' T q N sm') (hm : Mod T0 wr w') (h0 : ∀ k, T0 k → T k) : Play w w' S T p q N sd sm' v cs :=
  h.right hr (.same (hm.mono (fun k _ hk => h0 k hk))) h.new
theorem Play.grow {sm' : DSt} {M : Nat} (h : Play w wr S T p q N sd sm v cs) (hr : IsRef w' (Grow T wr w') q M sm') (hm : Mod T wr w') : Play w w' S (Grow T wr w') p q M sd sm' v cs := by
  refine h.right hr ⟨hm, fun k hk hg => ?_⟩ (fun k hk => ?_)
  · rcases hg with hg | hg
    · exact hg
    · omega
  · rcases hk with hk | hk
    · exact h.new k hk
    · exact Nat.le_trans h.live.2.1.size hk.1
theorem Play.own (h : Play w wr S T p q N sd sm v cs) : T q := by
  obtain ⟨b, n, f, qs, bv, h, _⟩ := h.ref; exact h.own
/-- the disk is gone on with as its clone -/
theorem Play.clone {S' : Nat → Prop} {p' : Nat} (h : Play w wr S T p q N sd sm v cs) (hd : IsDisk w' S' p' sd) (hm : Mod None wr w') (hn : ∀ k, S' k → wr.heap.size ≤ k) :
    Play w w' S' T p' q N sd sm v cs ∧ Live w w' S p sd ∧ (∀ k, S' k → ¬ S k) ∧ (∀ k, T k → ¬ S k) :=
  ⟨⟨⟨hd, h.live.2.1.trans hm, fun k hk => Nat.le_trans h.live.2.1.size (hn k hk)⟩, h.ref.keep hm (fun _ _ h => h), fun k hs hk => by have := hn k hs; have := h.ref.lt k hk; omega, h.new, hm.blk h.var (fun h => h),
    fun hs => by have := hn v hs; have := h.var.lt; omega, h.vT⟩, h.live.step hm, fun k hs hk => by have := hn k hs; have := h.live.lt k hk; omega, fun k hk hs => h.dis k hs hk⟩
/-- what the old disk does, the clone doesn't meet -/
theorem Play.old {R R' : Nat → Prop} (h : Play w wr S T p q N sd sm v cs) (ht : Turn R R' wr w') (hS : ∀ k, S k → ¬ R k) (hT : ∀ k, T k → ¬ R k) (hv : ¬ R v) (hR : ∀ k, R k → w.heap.size ≤ k) :
    Play w w' S T p q N sd sm v cs ∧ (∀ k, S k → ¬ R' k) ∧ (∀ k, T k → ¬ R' k) ∧ ¬ R' v := by
  obtain ⟨h1, h2⟩ := h.live.turn ht hS hR
  exact ⟨⟨h1, h.ref.keep ht.mod hT, h.dis, h.new, ht.mod.blk h.var hv, h.vS, h.vT⟩, h2, fun k hk hs => hT k hk (ht.old k (h.ref.lt k hk) hs), fun hs => hv (ht.old v h.var.lt hs)⟩
theorem Play.start {w1 : World} (hl : Live w w1 S p sd) (hr : IsRef w1 T q N sm) (hd : ∀ k, S k → ¬ T k) (hn : ∀ k, T k → w.heap.size ≤ k) (cs : List Value) :
    Play w (w1.alloc (.cells cs.toArray 47)) S T p q N sd sm w1.heap.size cs :=
  ⟨hl.alloc _, hr.keep ((Mod.refl None w1).alloc _) (fun _ _ h => h), hd, hn, Blk.new w1 47 _, fun hs => by have := hl.lt _ hs; omega, fun ht => by have := hr.lt _ ht; omega⟩
end
/-- between the rounds -/
def playRel (w wr : World) (p q k : Nat) : Prop := ∃ S T N st, Live w wr S p st ∧ IsRef wr T q N st ∧ (∀ k, S k → ¬ T k) ∧ (∀ k, T k → w.heap.size ≤ k) ∧ N ≤ k ∧ st.waits.length ≤ k
theorem Play.rel {w wr : World} {S T : Nat → Prop} {p q N v k : Nat} {st : DSt} {cs : List Value} (h : Play w wr S T p q N st st v cs) (hN : N ≤ k) : playRel w wr p q k := by
  refine ⟨S, T, N, st, h.live, h.ref, h.dis, h.new, hN, ?_⟩
  obtain ⟨b, n, f, qs, bv, _, hn⟩ := h.ref
  omega
theorem waits_le {w : World} {S : Nat → Prop} {p N : Nat} {st : DSt} (h : IsRef w S p N st) : st.waits.length ≤ N := by
  obtain ⟨b, n, f, qs, bv, _, hn⟩ := h
  omega
theorem rd_late {w wr w' : World} {a : Option Addr} {l : List UInt8} (hr : Rd wr a l) (hb : l = [] ∨ ∃ b o, a = some ⟨b, o, none⟩ ∧ b < w.heap.size) (h1 : Mod None w wr) (h2 : Mod None w w') : Rd w' a l := by
  rcases hb with rfl | ⟨b, o, rfl, hlt⟩
  · exact .inl rfl
  · rcases hr with h | ⟨b', o', e, hc⟩
    · exact .inl h
    · cases e
      refine .inr ⟨b, o, rfl, fun i hi => ?_⟩
      rw [h2.cell (p := ⟨b, o + i, none⟩) hlt (fun h => h), ← h1.cell (p := ⟨b, o + i, none⟩) hlt (fun h => h)]; exact hc i hi
end Go.Proofs.Ytdhhpnfdnoaihaa

/- The document's disk: what waits is made lasting. -/
import Derived.Test.YtdhhpnfdnoaihaaE3
namespace Go.Proofs.Ytdhhpnfdnoaihaa
open Go.RowKit

section
variable {w w' : World} {S : Nat → Prop} {p b n : Nat} {f : Int → List UInt8} {qs : List Nat} {bv : Value} {st : DSt}
/-- a sector is made lasting -/
theorem RefAt.laid (h : RefAt w S p b n f qs bv st) {m : Nat} {k : Nat} {d : List UInt8} (hm : Mod (fun i => i = b) w w') (hmap : IsMap w' b m (fun j => if j = (k : Int) then d else f j)) (hd : d.length = 64) :
    RefAt w' S p b m (fun j => if j = (k : Int) then d else f j) qs bv { st with last := st.last.set k d } where
  obj := by
    have := hm.blk h.obj (h.map.ne h.obj)
    simpa using this
  own := h.own
  ownb := h.ownb
  map := hmap
  last := fun i s hs => by
    show pad64 (if (i : Int) = (k : Int) then d else f i) = s ∧ (if (i : Int) = (k : Int) then d else f i).length ≤ 64
    rw [List.getElem?_set] at hs
    by_cases hik : k = i
    · subst hik
      rw [if_pos rfl] at hs
      rw [if_pos rfl]
      split at hs
      · have : d = s := by simpa using hs
        subst this
        exact ⟨pad64_id hd, by omega⟩
      · cases hs
    · rw [if_neg hik] at hs
      rw [if_neg (by omega)]
      exact h.last i s hs
  buf := h.buf.kept hm (fun g hg e => h.buf.map h.map g hg e) (fun _ h => h)
  dat := fun j x q hx hq => ⟨(h.dat j x q hx hq).1, hm.blk (h.dat j x q hx hq).2 (h.map.ne (h.dat j x q hx hq).2)⟩
  len := h.len
  ok := ⟨by show 1 ≤ (st.last.set k d).length; rw [List.length_set]; exact h.ok.one, by show (st.last.set k d).length ≤ _; rw [List.length_set]; exact h.ok.most, fun s hs => by
    rcases List.mem_or_eq_of_mem_set hs with hs | rfl
    · exact h.ok.sec s hs
    · exact hd, fun x hx => by show x.1 < (st.last.set k d).length ∧ _; rw [List.length_set]; exact h.ok.wait x hx, h.ok.arm⟩
  lt := fun k hk => Nat.lt_of_lt_of_le (h.lt k hk) hm.size
end
def RFlushPost (S : Nat → Prop) (p N : Nat) (r : DSt × Int) (w : World) (e : Ending) (w' : World) : Prop :=
  e = .returned (.int .i64 r.2) ∧ IsRef w' S p N r.1 ∧ Mod S w w'
set_option maxRecDepth 100000 in
set_option maxHeartbeats 800000 in
theorem rflush_any (w : World) (S : Nat → Prop) (p N : Nat) (st : DSt) (h : IsRef w S p N st) (hN : N ≤ 4000000000000) :
    Calls Try.prog 39 #[.pointer (some ⟨p, 0, none⟩)] w (RFlushPost S p N st.flush w) := by
  obtain ⟨b, n, f, qs, bv, h, hn⟩ := h
  obtain ⟨_, _, _, _, h4⟩ := h.cells
  by_cases hd : st.down = true
  · have HS := hid (show st.flush = (st, 32) by unfold DSt.flush; rw [if_pos hd])
    have H := hid h
    rw [hd] at h4
    clear h hd hN
    go_enter Try.func39, Try.ntmps39
    go_wp2
    go_ret
    exact ⟨by rw [HS.out]; rfl, by rw [HS.out]; exact ⟨b, n, f, qs, bv, H.out, hn⟩, Mod.refl _ _⟩
  · have HS := hid (show st.flush = (({ st.settle st.waits.length with waits := [] } : DSt).changed, 0) by unfold DSt.flush; rw [if_neg hd])
    rw [Bool.not_eq_true] at hd
    rw [hd] at h4
    have HD := hid hd
    have H := hid h
    have HN := hid (And.intro hn hN)
    obtain ⟨ba, bc, rfl, hbc, hbm⟩ := h.shape
    unfold maxLen at hbm
    clear h hd hN hn
    go_enter Try.func39, Try.ntmps39
    go_wp2_with fail
    go_loopw [3] (fun i wr => ∃ (k : Nat), k ≤ st.waits.length ∧ i = .int .i64 k ∧ Hid (∃ f, RefAt wr S p b (n + k) f qs (.slice ba st.waits.length bc) (st.settle k)) ∧ Hid (Mod S w wr)) (fun i _ => st.waits.length - (intOf i).toNat)
    case atStart => exact ⟨0, by omega, rfl, ⟨f, H.out⟩, Mod.refl _ _⟩
    case round =>
      obtain ⟨k, hk, rfl, hr, hm⟩ := hrel
      obtain ⟨f1, hat⟩ := hr.out
      obtain ⟨_, hc1, hc2, _, _⟩ := hat.cells
      by_cases hlt : k < st.waits.length
      · have hlt' : (k : Int) < (st.waits.length : Int) := by omega
        obtain ⟨x, hx⟩ : ∃ x, st.waits[k]? = some x := ⟨_, List.getElem?_eq_getElem hlt⟩
        obtain ⟨q, g, cap, hq, e, _, hc3, hc4, hSq, hqb, hx1, h64⟩ := hat.at (st := st.settle k) hx
        obtain ⟨rfl, rfl⟩ : ba = some ⟨g, 0, none⟩ ∧ bc = cap := by cases e; exact ⟨rfl, rfl⟩
        clear e
        have hs := str_rd (w := wr.drew) (a := some ⟨q, 0, none⟩) (l := x.2) (hqb.rdv 0 (fun i _ => by rw [Nat.zero_add])) 64 64 h64.symm
        have hlast := hat.ok.most
        obtain ⟨w2, hput, hmap, hmod⟩ := (hat.map.keep (w' := wr.drew) (Mod.refl None wr).drew (fun h => h)).put (by have := HN.out; unfold maxLen; omega) (x.1 : Int) (by unfold In64; omega) x.2 (by omega)
        have hset := (hat.keep (S' := S) (w' := wr.drew) (Mod.refl None wr).drew (fun _ _ h => h) (fun _ h => h) hat.lt).laid hmod hmap h64
        have HSET := hid hset
        have HM2 := hid (hm.out.then (S' := fun i => i = b) (c := w2) ((Mod.refl (fun i => i = b) wr).drew.trans hmod) (fun k _ e => by subst e; exact hat.ownb))
        have HX := hid hx
        have HSS := hid (fun at' dd (hh : (st.settle k).waits[k] = (at', dd)) => DSt.settle_succ' st k hlt at' dd hh)
        clear hat hx hq hqb hmap hmod hset hx1 h64 hlast
        obtain ⟨at', d⟩ := x
        simp only at hc3 hs hput HSET
        unfold Str at hs hput
        go_wp2
        refine wp_region_still_tail 21 (by kernel_rfl) (by kernel_rfl) ?_
        change wpStill _ _ (World.drew _) (fun a' => wpList _ _ _ _ a' (World.drew _)) _ _
        simp only [List.take_succ_cons, List.take_zero, List.drop_succ_cons, List.drop_zero]
        repeat still_step
        refine wpStill_nil ?_
        go_wp2
        go_roundw
        case rel =>
          refine ⟨k + 1, by omega, by go_num, ⟨fun j => if j = (at' : Int) then d else f1 j, ?_⟩, HM2.out⟩
          have := HSS.out at' d (by have := HX.out; exact (List.getElem?_eq_some_iff.1 this).2)
          rw [this]; exact HSET.out
        case measure => simp [intOf]; omega
      · obtain rfl : k = st.waits.length := by omega
        have f2 := hat.obj.free 2
        have HAT := hid hat
        have HMM := hid hm.out
        have hm2 : Mod (fun k => k = p) wr (wr.setCell ⟨p, 2, none⟩ (.slice none 0 0)) := Mod.set (S := fun k => k = p) (Mod.refl _ _) (.inl rfl) _
        have hb2 := hat.obj.set 2 (.slice none 0 0)
        have hd2 : (st.settle st.waits.length).down = false := HD.out
        rw [hd2] at hb2
        have HR2 := hid (hat.struck hm2 hb2 hat.ok.arm)
        have HM2 := hid hm2
        clear hat hr hm hm2 hb2 hd2 hlt
        generalize hwl : st.waits.length = wl at *
        have HWL := hid hwl
        clear hwl
        go_wp2_with fail
        refine (change_any _ S p N _ ⟨b, n + wl, f1, _, _, HR2.out, HN.out.1⟩ rfl).mono ?_
        rintro e w5 ⟨rfl, hd5, hm5⟩
        have HD5 := hid hd5
        have HM5 := hid hm5
        clear hd5 hm5
        go_wp2_with fail
        go_ret
        rw [HS.out]
        refine ⟨rfl, ?_, (HMM.out.then HM2.out (fun k _ e => by subst e; exact H.out.own)).then HM5.out (fun k _ e => by subst e; exact H.out.own)⟩
        have h5 := HD5.out
        rw [← HD.out] at h5
        exact h5
end Go.Proofs.Ytdhhpnfdnoaihaa

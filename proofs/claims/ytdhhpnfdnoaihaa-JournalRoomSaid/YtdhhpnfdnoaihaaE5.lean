/- The document's disk: a crash. -/
import Derived.Test.YtdhhpnfdnoaihaaE4
namespace Go.Proofs.Ytdhhpnfdnoaihaa
open Go.RowKit

theorem rcrash_end {w wr : World} {S : Nat → Prop} {p b m N : Nat} {f : Int → List UInt8} {qs : List Nat} {bv : Value} {st : DSt} (h : RefAt wr S p b m f qs bv st) (hm : Mod S w wr) (hn : m ≤ N) :
    IsRef (((wr.setCell ⟨p, 2, none⟩ (.slice none 0 0)).setCell ⟨p, 4, none⟩ (.bool false)).setCell ⟨p, 3, none⟩ (.int .i64 (-1))) S p N { last := st.last, waits := [], armed := -1, down := false } ∧
      Mod S w (((wr.setCell ⟨p, 2, none⟩ (.slice none 0 0)).setCell ⟨p, 4, none⟩ (.bool false)).setCell ⟨p, 3, none⟩ (.int .i64 (-1))) := by
  have m3 : Mod (fun k => k = p) wr (((wr.setCell ⟨p, 2, none⟩ (.slice none 0 0)).setCell ⟨p, 4, none⟩ (.bool false)).setCell ⟨p, 3, none⟩ (.int .i64 (-1))) :=
    Mod.set (S := fun k => k = p) (Mod.set (S := fun k => k = p) (Mod.set (S := fun k => k = p) (Mod.refl _ _) (.inl rfl) _) (.inl rfl) _) (.inl rfl) _
  exact ⟨⟨b, m, f, [], _, h.struck m3 (((h.obj.set 2 _).set 4 _).set 3 _) (by omega), by simpa using hn⟩, hm.then m3 (fun k _ e => by subst e; exact h.own)⟩
def mix (d old : List UInt8) (m : Nat) : List UInt8 := d.take m ++ old.drop m
theorem mix_zero (d old : List UInt8) : mix d old 0 = old := by simp [mix]
theorem mix_set {d old : List UInt8} {m : Nat} {c : UInt8} (hd : d[m]? = some c) (ho : old.length = d.length) : ((mix d old m).map B).set m (.int .u8 (c.toNat : Int)) = (mix d old (m + 1)).map B := by
  have hm : m < d.length := (List.getElem?_eq_some_iff.1 hd).1
  have he : d[m] = c := (List.getElem?_eq_some_iff.1 hd).2
  have : (mix d old m).set m c = mix d old (m + 1) := by
    unfold mix
    rw [List.take_succ_eq_append_getElem hm, he, List.drop_eq_getElem_cons (by omega : m < old.length), List.set_append_right _ _ (by simp; omega)]
    simp [Nat.min_eq_left (Nat.le_of_lt hm)]
    rw [List.drop_eq_getElem_cons (by omega : m < old.length)]; rfl
  rw [← this, List.map_set]; rfl
theorem mix_len {d old : List UInt8} {m : Nat} (hd : d.length = 64) (ho : old.length = 64) (hm : m ≤ 64) : (mix d old m).length = 64 := by
  simp [mix, hd, ho]; omega
theorem clamp_at {kp : Int} {wl k : Nat} (h1 : k < wl) (h2 : ¬ (k : Int) < kp) (h3 : k = 0 ∨ (k : Int) ≤ kp) : clampN kp wl = k := by
  unfold clampN; omega
theorem clamp_all {kp : Int} {wl : Nat} (h3 : wl = 0 ∨ (wl : Int) ≤ kp) : clampN kp wl = wl := by
  unfold clampN; omega
theorem getD_sec {st : DSt} (hok : st.Ok) {k : Nat} (hk : k < st.last.length) : (st.last.getD k []).length = 64 := by
  rw [List.getD_eq_getElem?_getD, List.getElem?_eq_getElem hk]; exact hok.sec _ (List.getElem_mem hk)
set_option maxRecDepth 100000 in
set_option maxHeartbeats 1600000 in
theorem rcrash_any (w : World) (S : Nat → Prop) (p N : Nat) (st : DSt) (h : IsRef w S p N st) (hN : N ≤ 4000000000000) (kp tn : Int) :
    Calls Try.prog 41 #[.pointer (some ⟨p, 0, none⟩), .int .i64 kp, .int .i64 tn] w (RefPost (.tuple #[]) S p N (st.crash kp tn) S w) := by
  obtain ⟨b, n, f, qs, bv, h, hn⟩ := h
  have HC := hid (show st.crash kp tn = st.crashed (clampN kp st.waits.length) (clampN tn 64) from rfl)
  have H := hid h
  have HN := hid (And.intro hn hN)
  obtain ⟨ba, bc, rfl, hbc, hbm⟩ := h.shape
  unfold maxLen at hbm
  clear h hN hn
  go_enter Try.func41, Try.ntmps41
  go_wp2_with fail
  go_loopw [6] (fun i wr => ∃ (k : Nat), k ≤ st.waits.length ∧ i = .int .i64 k ∧ Hid (k = 0 ∨ (k : Int) ≤ kp) ∧ Hid (∃ f, RefAt wr S p b (n + k) f qs (.slice ba st.waits.length bc) (st.settle k)) ∧ Hid (Mod S w wr)) (fun i _ => st.waits.length - (intOf i).toNat)
  case atStart => exact ⟨0, by omega, rfl, .inl rfl, ⟨f, H.out⟩, Mod.refl _ _⟩
  case round =>
    obtain ⟨k, hk, rfl, hkp, hr, hm⟩ := hrel
    obtain ⟨f1, hat⟩ := hr.out
    obtain ⟨_, _, hc2, _, _⟩ := hat.cells
    by_cases hlt : k < st.waits.length
    · have hlt' : (k : Int) < (st.waits.length : Int) := by omega
      obtain ⟨x, hx⟩ : ∃ x, st.waits[k]? = some x := ⟨_, List.getElem?_eq_getElem hlt⟩
      obtain ⟨q, g, cap, hq, e, _, hc3, hc4, hSq, hqb, hx1, h64⟩ := hat.at (st := st.settle k) hx
      obtain ⟨rfl, rfl⟩ : ba = some ⟨g, 0, none⟩ ∧ bc = cap := by cases e; exact ⟨rfl, rfl⟩
      clear e
      obtain ⟨at', d⟩ := x
      simp only at hc3 hc4 hqb hx1 h64
      obtain ⟨w1, hw1⟩ : ∃ w1, w1 = wr.alloc (.cells #[.int .i64 (at' : Int), .slice (some ⟨q, 0, none⟩) 64 64] 115) := ⟨_, rfl⟩
      have hm1 : Mod None wr w1 := by rw [hw1]; exact (Mod.refl _ _).alloc _
      have hv : Blk w1 wr.heap.size 115 [.int .i64 (at' : Int), .slice (some ⟨q, 0, none⟩) 64 64] := by rw [hw1]; exact Blk.new wr 115 _
      have hat1 := hat.keep (S' := S) hm1 (fun _ _ h => h) (fun _ h => h) (fun k hk => Nat.lt_of_lt_of_le (hat.lt k hk) hm1.size)
      have hqb1 := hm1.blk hqb (fun h => h)
      by_cases hlk : (k : Int) < kp
      · obtain ⟨_, hp1, _, _, _⟩ := hat1.cells
        have hv0 : w1.cell? ⟨wr.heap.size, 0, none⟩ = some (.int .i64 (at' : Int)) := hv.is rfl
        have hv1 : w1.cell? ⟨wr.heap.size, 1, none⟩ = some (.slice (some ⟨q, 0, none⟩) 64 64) := hv.is rfl
        have hs := str_rd (w := w1.drew) (a := some ⟨q, 0, none⟩) (l := d) (hqb1.rdv 0 (fun i _ => by rw [Nat.zero_add])) 64 64 h64.symm
        have hlast := hat.ok.most
        obtain ⟨w2, hput, hmap, hmod⟩ := (hat1.map.keep (w' := w1.drew) (Mod.refl None w1).drew (fun h => h)).put (by have := HN.out; unfold maxLen; omega) (at' : Int) (by unfold In64; omega) d (by omega)
        have HSET := hid ((hat1.keep (S' := S) (w' := w1.drew) (Mod.refl None w1).drew (fun _ _ h => h) (fun _ h => h) hat1.lt).laid hmod hmap h64)
        have HM2 := hid ((hm.out.trans (hm1.mono (fun _ _ h => h.elim))).then (S' := fun i => i = b) (c := w2) ((Mod.refl (fun i => i = b) w1).drew.trans hmod) (fun k _ e => by subst e; exact hat.ownb))
        have HSS := hid (DSt.settle_succ' st k hlt at' d (List.getElem?_eq_some_iff.1 hx).2)
        clear hat hx hq hqb hmap hmod hx1 h64 hlast hat1 hqb1 hv hm1
        unfold Str at hs hput
        go_wp2
        rw [← hw1]
        clear hw1 hc3 hc4 hc2
        refine wp_region_still_tail 9 (by kernel_rfl) (by kernel_rfl) ?_
        change wpStill _ _ (World.drew _) (fun a' => wpList _ _ _ _ a' (World.drew _)) _ _
        simp only [List.take_succ_cons, List.take_zero, List.drop_succ_cons, List.drop_zero]
        repeat still_step
        refine wpStill_nil ?_
        go_wp2
        go_roundw
        case rel =>
          refine ⟨k + 1, by omega, by go_num, .inr (by omega), ⟨fun j => if j = (at' : Int) then d else f1 j, ?_⟩, HM2.out⟩
          rw [HSS.out]; exact HSET.out
        case measure => simp [intOf]; omega
      · have HCL := hid (clamp_at hlt hlk hkp.out)
        have hv0 : w1.cell? ⟨wr.heap.size, 0, none⟩ = some (.int .i64 (at' : Int)) := hv.is rfl
        have hlast := hat.ok.most
        have HOLD := hid (getD_sec hat.ok hx1)
        have HLAST := hid (lasting_any w1 S p (n + k + st.waits.length) (st.settle k) ⟨b, n + k, f1, qs, _, hat1, Nat.le_refl _⟩ at' hx1)
        have HX := hid (show st.crash kp tn = { last := (st.settle k).last.set at' (torn d ((st.settle k).last.getD at' []) (clampN tn 64)), waits := [], armed := -1, down := false } by
          rw [HC.out, HCL.out, DSt.crashed_some st _ _ _ hx]; rfl)
        generalize (st.settle k).last.getD at' [] = old at *
        have HOL := hid HOLD.out
        clear HOLD
        have HAT1 := hid hat1
        have HV := hid hv
        have HQB := hid hqb1
        have HM1 := hid (hm.out.trans (hm1.mono (S' := S) (fun _ _ h => h.elim)))
        have HNN := hid (show n + k + 1 ≤ N ∧ n + k < maxLen by have := HN.out; unfold maxLen; omega)
        have HIN := hid (show In64 (at' : Int) by unfold In64; omega)
        have HD64 := hid h64
        have hvs : wr.heap.size < w1.heap.size := hv.lt
        have HVS := hid hvs
        have HM1w := hid (show w.heap.size ≤ w1.heap.size from HM1.out.size)
        clear hat hat1 hqb hqb1 hv hm1 hx hq hx1 h64 hlast hm hr hvs HC HCL hkp
        generalize hvb : wr.heap.size = v at *
        go_wp2_with fail
        rw [← hw1]
        clear hw1 hc3 hc4 hc2
        refine HLAST.out.mono ?_
        rintro e w2 ⟨a, rfl, hf, hm2⟩
        obtain ⟨qo, rfl, hqo, hob⟩ := hf
        have HAT2 := hid (HAT1.out.keep (S' := S) hm2 (fun _ _ h => h) (fun _ h => h) (fun k hk => Nat.lt_of_lt_of_le (HAT1.out.lt k hk) hm2.size))
        have HV2 := hid (hm2.blk HV.out (fun h => h))
        have HQB2 := hid (hm2.blk HQB.out (fun h => h))
        have HM2 := hid (HM1.out.trans (hm2.mono (S' := S) (fun _ _ h => h.elim)))
        have HFAR := hid (show (∀ k, S k → ¬ k = qo) ∧ v ≠ qo from ⟨fun k hk e => by have := HAT1.out.lt k hk; omega, by have := HVS.out; omega⟩)
        have HQO := hid hqo
        have HOB := hid hob
        have HQQ := hid hSq
        clear hm2 hqo hob hSq hv0 HLAST HAT1 HV HQB HM1
        have HCT := hid (show clampN tn 64 ≤ 64 from clamp_le _ _)
        have HCT2 := hid (show ∀ m : Nat, m < clampN tn 64 → (m : Int) < 64 ∧ (m : Int) < tn by intro m hm; unfold clampN at hm; omega)
        have HCT3 := hid (show ∀ m : Nat, m ≤ clampN tn 64 → ¬ m < clampN tn 64 → m = clampN tn 64 ∧ (m = 64 ∨ ((m : Int) < 64 ∧ ¬ (m : Int) < tn)) by intro m h1 h2; unfold clampN at *; omega)
        generalize clampN tn 64 = t at *
        go_wp2_with fail
        go_loopw [9] (fun i wq => ∃ m : Nat, m ≤ t ∧ i = .int .i64 m ∧ Hid (Blk wq qo 5 ((mix d old m).map B)) ∧ Hid (Mod (fun k => k = qo) w2 wq)) (fun i _ => t - (intOf i).toNat)
        case atStart => exact ⟨0, Nat.zero_le _, rfl, by show Blk _ _ _ _; rw [mix_zero]; exact HOB.out, Mod.refl _ _⟩
        case round =>
          obtain ⟨m, hmt, rfl, hb, hmq⟩ := hrel
          by_cases hml : m < t
          · obtain ⟨c1, c2⟩ := HCT2.out m hml
            have hv1 : wr.cell? ⟨v, 1, none⟩ = some (.slice (some ⟨q, 0, none⟩) 64 64) := (hmq.out.blk HV2.out HFAR.out.2).is rfl
            have hm64 : m < d.length := by have := HD64.out; have := HCT.out; omega
            obtain ⟨c, hc⟩ : ∃ c, d[m]? = some c := ⟨_, List.getElem?_eq_getElem hm64⟩
            have hq1 : wr.cell? ⟨q, m, none⟩ = some (.int .u8 (c.toNat : Int)) := by
              rw [(hmq.out.blk HQB2.out (HFAR.out.1 q HQQ.out)).cell, List.getElem?_map, hc]; rfl
            have hfr := hb.out.free m
            have HB := hid (show Blk (wr.setCell ⟨qo, m, none⟩ (.int .u8 (c.toNat : Int))) qo 5 ((mix d old (m + 1)).map B) by
              rw [← mix_set hc (by rw [HD64.out]; exact HOL.out)]; exact hb.out.set m _)
            have HMQ := hid (show Mod (fun k => k = qo) w2 (wr.setCell ⟨qo, m, none⟩ (.int .u8 (c.toNat : Int))) from hmq.out.set (.inl rfl) _)
            have HCELL := hid (show wr.cell? ⟨qo, m, none⟩ ≠ none by
              rw [hb.out.cell]
              have := mix_len HD64.out HOL.out (Nat.le_trans hmt HCT.out)
              simp; have := HD64.out; omega)
            clear hb hmq hc hm64
            go_wp2_with fail
            go_roundw
            case rel => exact ⟨m + 1, by omega, by go_num, HB.out, HMQ.out⟩
            case measure => simp [intOf]; omega
          · obtain ⟨rfl, hcc⟩ := HCT3.out m hmt hml
            have hml' : (mix d old m).length = 64 := mix_len HD64.out HOL.out HCT.out
            have hat3 := HAT2.out.keep (S' := S) hmq.out (fun k hk => HFAR.out.1 k hk) (fun _ h => h) (fun k hk => Nat.lt_of_lt_of_le (HAT2.out.lt k hk) hmq.out.size)
            obtain ⟨_, hp1, _, _, _⟩ := hat3.cells
            have hv0 : wr.cell? ⟨v, 0, none⟩ = some (.int .i64 (at' : Int)) := (hmq.out.blk HV2.out HFAR.out.2).is rfl
            have hs := str_rd (w := wr.drew) (a := some ⟨qo, 0, none⟩) (l := mix d old m) (hb.out.rdv 0 (fun i _ => by rw [Nat.zero_add])) 64 64 hml'.symm
            obtain ⟨w4, hput, hmap, hmod⟩ := (hat3.map.keep (w' := wr.drew) (Mod.refl None wr).drew (fun h => h)).put HNN.out.2 (at' : Int) HIN.out (mix d old m) (by omega)
            have hset := (hat3.keep (S' := S) (w' := wr.drew) (Mod.refl None wr).drew (fun _ _ h => h) (fun _ h => h) hat3.lt).laid hmod hmap hml'
            have HM4 := hid ((HM2.out.then hmq.out (fun k hk e => by subst e; have := HQO.out; have := HM1w.out; omega)).then (S' := fun i => i = b) (c := w4) ((Mod.refl (fun i => i = b) wr).drew.trans hmod) (fun k _ e => by subst e; exact hat3.ownb))
            have f2 := hset.obj.free 2
            have f3 := hset.obj.free 3
            have f4 := hset.obj.free 4
            have HE := hid (rcrash_end hset HM4.out HNN.out.1)
            obtain ⟨_, _, d2, d3, d4⟩ := hset.cells
            clear hat3 hb hmq hmap hmod hset hml'
            unfold Str at hs hput
            have HX2 := hid (show st.crash kp tn = { last := (st.settle k).last.set at' (mix d old m), waits := [], armed := -1, down := false } from HX.out)
            generalize mix d old m = ml at *
            have hcc' : ¬ (m : Int) < 64 ∨ ((m : Int) < 64 ∧ ¬ (m : Int) < tn) := by omega
            clear hcc hml hmt HX HCT2 HCT3
            rcases hcc' with c1 | ⟨c1, c2⟩
            all_goals
              go_wp2
              refine wp_region_still_tail 8 (by kernel_rfl) (by kernel_rfl) ?_
              change wpStill _ _ (World.drew _) (fun a' => wpList _ _ _ _ a' (World.drew _)) _ _
              simp only [List.take_succ_cons, List.take_zero, List.drop_succ_cons, List.drop_zero]
              repeat still_step
              refine wpStill_nil ?_
              go_wp2
              go_end0
              rw [HX2.out]
              exact ⟨rfl, HE.out.1, HE.out.2⟩
    · obtain rfl : k = st.waits.length := by omega
      have HCL := hid (clamp_all hkp.out)
      have f2 := hat.obj.free 2
      have f3 := hat.obj.free 3
      have f4 := hat.obj.free 4
      have HE := hid (rcrash_end hat hm.out HN.out.1)
      have HX := hid (show st.crash kp tn = { last := (st.settle st.waits.length).last, waits := [], armed := -1, down := false } by rw [HC.out, HCL.out, DSt.crashed_none st _ _ (Nat.le_refl _)])
      clear hat hr hm hlt
      generalize st.waits.length = wl at *
      go_wp2_with fail
      go_end0
      rw [HX.out]
      exact ⟨rfl, HE.out.1, HE.out.2⟩
end Go.Proofs.Ytdhhpnfdnoaihaa

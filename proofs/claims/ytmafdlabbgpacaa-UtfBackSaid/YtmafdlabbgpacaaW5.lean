/- The walk of UtfBack. -/
import Derived.Test.YtmafdlabbgpacaaP3
import Derived.Test.YtmafdlabbgpacaaV2
import Derived.Test.YtmafdlabbgpacaaC5
import Derived.Test.YtmafdlabbgpacaaC9
import Derived.Test.YtmafdlabbgpacaaL2
namespace Go.Proofs.Ytmafdlabbgpacaa
open Go.RowKit

theorem owns_mod {w w' : World} {base e size : Nat} {v : Value} {n : Nat} {xs : List Value} (h : w.ownsRow base e size v n xs) {S : Nat → Prop} (hm : Mod S w w') (hS : ∀ k, v.ownBlock = some k → ¬ S k) : w'.ownsRow base e size v n xs := by
  obtain ⟨h1, h2⟩ := h
  refine ⟨h1, ?_⟩
  rcases h2 with h2 | ⟨g, cap, cur, rfl, hb, hg, r⟩
  · exact .inl h2
  · refine .inr ⟨g, cap, cur, rfl, hb, ?_, r⟩
    rw [hm.block g (Array.getElem?_eq_some_iff.1 hg).1 (hS g rfl)]; exact hg
theorem owns_rd {w : World} {e n : Nat} {a : Option Addr} {m c : Nat} {xs : List Value} (h : w.ownsRow 0 e 1 (.slice a m c) n xs) : RdV w a xs := by
  obtain ⟨h1, h2⟩ := h
  rcases h2 with ⟨h2, h0⟩ | ⟨g, cap, cur, h2, _, hg, hn, _, hs, ht⟩
  · left
    exact List.eq_nil_of_length_eq_zero (by rw [h1, h0])
  · cases h2
    refine .inr ⟨g, 0, rfl, fun i hi => ?_⟩
    rw [Nat.zero_add]
    have hc : w.cell? ⟨g, i, none⟩ = cur[i]? := by simp [World.cell?, hg]
    rw [hc, ← ht]
    have hi' : i < n * 1 := by omega
    rw [List.getElem?_take, if_pos hi']; simp
structure BackRel (bl : List UInt8) (kl : List Int) (w wr : World) (b kv : Value) : Prop where
  ob : wr.ownsRow 0 5 1 b bl.length (bl.map B)
  ok : wr.ownsRow 0 21 1 kv kl.length (kl.map I32)
  hm : Mod None w wr
  nb : ∀ g, b.ownBlock = some g → w.heap.size ≤ g
  nk : ∀ g, kv.ownBlock = some g → w.heap.size ≤ g ∧ b.ownBlock ≠ some g
theorem BackRel.mod {bl : List UInt8} {kl : List Int} {w wr w2 : World} {b kv : Value} (h : BackRel bl kl w wr b kv) (hm : Mod None wr w2) : BackRel bl kl w w2 b kv :=
  ⟨owns_mod h.ob hm (fun _ _ h => h), owns_mod h.ok hm (fun _ _ h => h), h.hm.trans hm, h.nb, h.nk⟩
theorem b_und28 : Try.prog.underlying 28 = some (.slice 5) := by kernel_rfl
theorem b_info5 : (Try.prog.info? 5).map (fun i => (i.zero, i.size, i.bytes)) = some (some (.int .u8 0), 1, 1) := by kernel_rfl
theorem b_info21 : (Try.prog.info? 21).map (fun i => (i.zero, i.size, i.bytes)) = some (some (.int .i32 0), 1, 4) := by kernel_rfl
theorem I32_one (l : List Int) : ∀ u ∈ l.map I32, u.oneCell' = true := by
  intro u hu
  obtain ⟨b, _, rfl⟩ := List.mem_map.1 hu; rfl
theorem str_cells (p : List UInt8) : Lib.strCells ⟨p.toArray⟩ = p.map B := by simp [Lib.strCells, B]
theorem wp_put_b {w wr : World} {o : Oper} {a : Act} {K : Act → World → Prop} {Q : Exit → Act → World → Prop} (sl x : Operand)
    (ho : o.op = .call { callee := .builtin .append, args := #[sl, x], argTypes := #[28, 9] })
    {bl p : List UInt8} {kl : List Int} {ba : Option Addr} {bn bc : Nat} {kv : Value} (hr : BackRel bl kl w wr (.slice ba bn bc) kv)
    (hs : a.eval sl = .slice ba bn bc) (hx : a.eval x = .string ⟨p.toArray⟩) (hb : bl.length + p.length ≤ 1000000) (bm : Nat) (hbm : bl.length + p.length = bm)
    (h : ∀ va vc w', Hid (BackRel (bl ++ p) kl w w' (.slice va bm vc) kv) → K (a.put o.dst (.slice va bm vc)) w') : o.wp Try.prog a wr K Q := by
  obtain ⟨i, hi, hz, hsz, hby⟩ := info_parts b_info5
  have hps : (⟨p.toArray⟩ : ByteArray).size = p.length := rfl
  subst hbm
  refine wp_append_S sl x 28 9 ho 5 i b_und28 und9 hi hz hsz hby _ bl.length (bl.map B) hs hr.ob ⟨p.toArray⟩ hx (by rw [hps]; unfold maxLen; omega) (by rw [hps]; omega) (fun va vc w' h2 h3 h4 => ?_)
  refine h va vc w' ?_
  have g2 := h2.out
  rw [str_cells, ← List.map_append, hps] at g2
  have g3 := h3.out
  have g4 := h4.out
  refine ⟨?_, owns_mod hr.ok g3 (fun k hk e => (hr.nk k hk).2 e), hr.hm.then g3 (fun i hi e => absurd (hr.nb i e) (by omega)), fun g hg => ?_, fun g hg => ⟨(hr.nk g hg).1, fun e => ?_⟩⟩
  · rw [List.length_append]; exact g2
  · rcases g4 g hg with e | e
    · exact hr.nb g e
    · have := hr.hm.size; omega
  · rcases g4 g e with e | e
    · exact (hr.nk g hg).2 e
    · have := (World.ownsRow.lt hr.ok g hg).2; omega
theorem wp_put_k {w wr : World} {o : Oper} {a : Act} {K : Act → World → Prop} {Q : Exit → Act → World → Prop} (sl x : Operand)
    (ho : o.op = .call { callee := .builtin .append, args := #[sl, x], argTypes := #[27, 27] })
    {bl : List UInt8} {kl : List Int} {ka : Option Addr} {kn kc : Nat} {b : Value} {r : Int} {q : Option Addr} {c : Nat} (hr : BackRel bl kl w wr b (.slice ka kn kc))
    (hs : a.eval sl = .slice ka kn kc) (hx : a.eval x = .slice q 1 c) (hq : RdV wr q [I32 r]) (hb : kl.length ≤ 1000000) (km : Nat) (hkm : kl.length + 1 = km)
    (h : ∀ va vc w', Hid (BackRel bl (kl ++ [r]) w w' b (.slice va km vc)) → K (a.put o.dst (.slice va km vc)) w') : o.wp Try.prog a wr K Q := by
  obtain ⟨i, hi, hz, hsz, hby⟩ := info_parts b_info21
  subst hkm
  refine wp_append_R sl x 27 ho 21 i _ 1 4 v_und27 hi hz hsz hby rfl (by decide) _ kl.length (kl.map I32) hs hr.ok q 1 c [I32 r] hx rfl hq (I32_one [r]) (by unfold maxLen; omega) (by omega) (fun va vc w' h2 h3 h4 => ?_)
  refine h va vc w' ?_
  have g2 := h2.out
  have g3 := h3.out
  have g4 := h4.out
  refine ⟨owns_mod hr.ob g3 (fun k hk e => (hr.nk k e).2 hk), ?_, hr.hm.then g3 (fun i hi e => absurd (hr.nk i e).1 (by omega)), hr.nb, fun g hg => ?_⟩
  · rw [List.length_append, List.map_append]; exact g2
  · rcases g4 g hg with e | e
    · exact hr.nk g e
    · refine ⟨by have := hr.hm.size; omega, fun e2 => ?_⟩
      have := (World.ownsRow.lt hr.ob g e2).2; omega
theorem lit_rdv (w : World) (l : List Value) (C : Array Value) (hC : C = l.toArray) (q : Nat) (hq : q = w.heap.size) (t : TypeId) : RdV (w.alloc (.cells C t)) (some ⟨q, 0, none⟩) l := by
  subst hC hq
  exact (Blk.new w t l.toArray).rdv 0 (fun i _ => by rw [Nat.zero_add])
theorem BackRel.start (w wr : World) (hm : Mod None w wr) : BackRel [] [] w wr (.slice none 0 0) (.slice none 0 0) :=
  ⟨World.ownsRow_nil _ _ _ _, World.ownsRow_nil _ _ _ _, hm, (fun _ h => by cases h), (fun _ h => by cases h)⟩
theorem at_of {α : Type} {f : α → Value} {w : World} {a : Option Addr} {l : List α} (h : RdV w a (l.map f)) {k : Nat} {r : α} (hk : l[k]? = some r) : ∃ b o, a = some ⟨b, o, none⟩ ∧ w.cell? ⟨b, o + k, none⟩ = some (f r) := by
  have hlt : k < l.length := by
    rcases Nat.lt_or_ge k l.length with h | h
    · exact h
    · rw [List.getElem?_eq_none h] at hk; cases hk
  rcases h with h | ⟨b, o, rfl, hc⟩
  · simp at h; subst h; simp at hlt
  · refine ⟨b, o, rfl, ?_⟩
    rw [hc k (by simpa using hlt), List.getElem?_map, hk]; rfl

set_option maxRecDepth 100000 in
set_option maxHeartbeats 1600000 in
theorem UtfBack_walk (w : World) (v0 : Value) (l0 : List Int) (w0 : VInts w v0 l0) :
    Calls Try.prog 4 #[v0] w fun e w' => e = .returned (.bool true) ∧ Below w.heap.size w w' := by
  obtain ⟨a, cap, rfl, hll, hrd⟩ := w0
  have HS := hid (fun w' (hm : Mod None w w') => hm.rdv hrd (fun _ _ h => h))
  clear hrd
  by_cases hbig : 100000 < l0.length
  · have hb : (100000 : Int) < (l0.length : Int) := by omega
    clear hbig hll
    generalize l0.length = n at *
    go_enter Try.func4, Try.ntmps4
    go_wp2_with fail
    refine (awake7_any w).mono ?_
    rintro e w1 ⟨rfl, hm⟩
    have H1 := hid hm
    clear hm
    go_wp2_with fail
    refine (awake7_any w1).mono ?_
    rintro e w2 ⟨rfl, hm⟩
    have H2 := hid hm
    clear hm
    go_wp2_with fail
    go_ret
    exact ⟨rfl, (H1.out.trans H2.out).below _ (Nat.le_refl _) (fun _ h => h.elim)⟩
  have hb : ¬ (100000 : Int) < (l0.length : Int) := by omega
  have HB := hid hbig
  clear hbig
  go_enter Try.func4, Try.ntmps4
  go_wp2_with fail
  refine (awake7_any w).mono ?_
  rintro e w1 ⟨rfl, hm⟩
  have H1 := hid hm
  clear hm
  go_wp2_with fail
  go_loopw [3, 4, 5] (fun b kv i wr => ∃ (k : Nat) (ba : Option Addr) (bn bc : Nat) (ka : Option Addr) (kn kc : Nat), k ≤ l0.length ∧ i = .int .i64 k ∧ b = .slice ba bn bc ∧ kv = .slice ka kn kc ∧ Hid (BackRel (bs (l0.take k)) (kp (l0.take k)) w wr (.slice ba bn bc) (.slice ka kn kc)) ∧ Hid (bn = (bs (l0.take k)).length ∧ kn = (kp (l0.take k)).length)) (fun _ _ i _ => l0.length - (intOf i).toNat)
  case atStart => exact ⟨0, none, 0, 0, none, 0, 0, by omega, rfl, rfl, rfl, BackRel.start w w1 H1.out, rfl, rfl⟩
  case round =>
    obtain ⟨k, ba, bn, bc, ka, kn, kc, hk, rfl, rfl, rfl, hr, hn⟩ := hrel
    by_cases hlt : k < l0.length
    · obtain ⟨r, hr0⟩ : ∃ r, l0[k]? = some r := ⟨_, List.getElem?_eq_getElem hlt⟩
      have hlt' : (k : Int) < (l0.length : Int) := by omega
      have HT := hid (show l0.take (k + 1) = l0.take k ++ [r] by rw [List.take_succ_eq_append_getElem hlt, (List.getElem?_eq_some_iff.1 hr0).2])
      have HC := hid (fun w' hm => at_of (HS.out w' hm) hr0)
      obtain ⟨b, o, rfl, hcell⟩ := HC.out wr hr.out.hm
      have HCC := hid (fun w' (hm : Mod None w w') => show w'.cell? ⟨b, o + k, none⟩ = some (.int .i32 r) by
        obtain ⟨b', o', e, h⟩ := HC.out w' hm
        cases e; exact h)
      clear HC hcell hr0
      have hcell := HCC.out wr hr.out.hm
      have hbl : (bs (l0.take k)).length ≤ 400000 := by
        have h1 := bs_len (l0.take k); have h2 := HB.out; rw [List.length_take] at h1; omega
      have hkl : (kp (l0.take k)).length ≤ 100000 := by
        have h1 := kp_len (l0.take k); have h2 := HB.out; rw [List.length_take] at h1; omega
      have HLL := hid (And.intro hbl hkl)
      clear hbl hkl
      go_wp2_with fail
      refine (put_any wr r).mono ?_
      rintro e w2 ⟨rfl, hm⟩
      have HR2 := hid (hr.out.mod hm)
      clear hm hcell
      have hcell := HCC.out w2 HR2.out.hm
      have HPL := hid (put_len r)
      have HKS := hid (kp_snoc (l0.take k) r)
      have HBS := hid (bs_snoc (l0.take k) r)
      rw [← HT.out] at HKS HBS
      generalize hp : putL r = p at *
      unfold Str
      cases p with
      | nil =>
        have HN := hid hn.out
        clear hn
        go_wp2_with (at_builtin; go_loud (refine wpList_plain rfl (fun K hK => wp_put_b (.tmp 42) (.tmp 43) rfl (p := []) HR2.out rfl rfl (by have := HLL.out; simp; omega) bn (by simp; exact HN.out.1.symm) (fun va vc w' h2 => hK _ _ ?_))); have HR3 := hid h2.out; clear h2)
        go_roundw
        case rel =>
          refine ⟨k + 1, _, _, _, _, _, _, by omega, by go_num, rfl, rfl, ?_, ?_⟩
          · show BackRel _ _ _ _ _ _
            rw [HKS.out, HBS.out, if_pos trivial]; exact HR3.out
          · show _ ∧ _
            rw [HKS.out, HBS.out, if_pos trivial, List.append_nil]; exact HN.out
        case measure => simp [intOf]; omega
      | cons c t =>
        have hne : ¬ (⟨(c :: t).toArray⟩ : ByteArray) = ⟨#[]⟩ := arr_inj (a := c :: t) (b := []) (by simp)
        have HN := hid hn.out
        clear hn
        go_wp2_with (at_builtin; first | (refine wpList_plain rfl (fun K hK => wp_put_k (.tmp 35) (.tmp 40) rfl (r := r) (HR2.out.mod ((Mod.refl None w2).alloc _)) rfl rfl (lit_rdv w2 [I32 r] _ rfl _ rfl _) (by have := HLL.out; omega) (kn + 1) (by rw [HN.out.2]) (fun va vc w' h2 => hK _ _ ?_)); have HR3 := hid h2.out; clear h2) | (refine wpList_plain rfl (fun K hK => wp_put_b (.tmp 42) (.tmp 43) rfl (p := c :: t) HR3.out rfl rfl (by have := HLL.out; have := HPL.out; omega) (bn + (t.length + 1)) (by rw [HN.out.1]; rfl) (fun va vc w' h2 => hK _ _ ?_)); have HR4 := hid h2.out; clear h2))
        go_roundw
        case rel =>
          refine ⟨k + 1, _, _, _, _, _, _, by omega, by go_num, rfl, rfl, ?_, ?_⟩
          · show BackRel _ _ _ _ _ _
            rw [HKS.out, HBS.out, if_neg (by simp)]; exact HR4.out
          · show _ ∧ _
            rw [HKS.out, HBS.out, if_neg (by simp), List.length_append, List.length_append]; exact ⟨by rw [HN.out.1]; rfl, by rw [HN.out.2]; rfl⟩
        case measure => simp [intOf]; omega
    · obtain rfl : k = l0.length := by omega
      rw [List.take_length] at hr hn
      obtain ⟨rfl, rfl⟩ := hn.out
      obtain ⟨s, hs0⟩ : ∃ s : ByteArray, s = ⟨(bs l0).toArray⟩ := ⟨_, rfl⟩
      have hs := str_rd (owns_rd hr.out.ob) (bs l0).length bc rfl
      unfold Str at hs
      rw [← hs0] at hs
      have hlen : s.size = (bs l0).length := by rw [hs0]; rfl
      have hsd : s.data.toList = bs l0 := by rw [hs0]
      have hbl : (bs l0).length ≤ 400000 := by have h1 := bs_len l0; have h2 := HB.out; omega
      have hkl : (kp l0).length ≤ 100000 := by have h1 := kp_len l0; have h2 := HB.out; omega
      have HSZ := hid (show s.size ≤ 140737488351232 by omega)
      have HLEN := hid hlen
      have HSD := hid hsd
      have HBL := hid hbl
      have HK := hid (owns_rd hr.out.ok)
      have HM := hid hr.out.hm
      have hlt' : ¬ (l0.length : Int) < (l0.length : Int) := by omega
      clear hs0 hlen hsd hbl hr hn hlt hk
      generalize l0.length = n0 at *
      generalize hbn : (bs l0).length = bn at *
      have HBN := hid hbn
      clear hbn
      generalize hkn : (kp l0).length = kn at *
      have HKN := hid hkn
      clear hkn
      go_wp2_with fail
      go_loopw [8, 9] (fun at' i wq => ∃ (j q : Nat), j ≤ kn ∧ q ≤ 400000 ∧ i = .int .i64 j ∧ at' = .int .i64 q ∧ Hid (q = pl l0 j) ∧ Hid (Mod None wr wq)) (fun _ i _ => kn - (intOf i).toNat)
      case atStart => exact ⟨0, 0, by omega, by omega, rfl, rfl, (pl_zero l0).symm, Mod.refl _ _⟩
      case round =>
        obtain ⟨j, q, hj, hq4, rfl, rfl, hq, hm⟩ := hrel
        by_cases hlt : j < kn
        · have hlt2 : (j : Int) < (kn : Int) := by omega
          obtain ⟨r, hr0⟩ : ∃ r, (kp l0)[j]? = some r := ⟨_, List.getElem?_eq_getElem (by rw [HKN.out]; exact hlt)⟩
          obtain ⟨hnx, hpl, h1, h4⟩ := pl_next hr0
          rw [← hq.out] at hnx hpl
          have hN := next_any wr s q HSZ.out
          rw [HSD.out, hnx] at hN
          obtain ⟨b, o, rfl, hcell0⟩ := at_of (f := I32) (hm.out.rdv HK.out (fun _ _ h => h)) hr0
          have HCC := hid (fun w' (hm2 : Mod None wr w') => show w'.cell? ⟨b, o + j, none⟩ = some (.int .i32 r) by
            obtain ⟨b', o', e, h⟩ := at_of (f := I32) ((hm.out.trans hm2).rdv HK.out (fun _ _ h => h)) hr0
            cases e; exact h)
          have HPL := hid hpl
          have hle : pl l0 (j + 1) ≤ 400000 := by
            have h1 := bs_len ((kp l0).take (j + 1)); rw [List.length_take, HKN.out] at h1; unfold pl; omega
          have HLE := hid hle
          clear hnx hpl hr0 hcell0 hle
          generalize (putL r).length = m at *
          have hmq : q + m ≤ 400000 := by rw [← HPL.out]; exact HLE.out
          have HMM := hid hm.out
          have HQ := hid hq.out
          clear hm hq
          go_wp2_with fail
          refine hN.mono ?_
          rintro e w2 ⟨rfl, hm2⟩
          have HR2 := hid (HMM.out.trans hm2)
          have hcell := HCC.out w2 hm2
          clear hm2 hN
          go_wp2_with fail
          go_roundw
          case rel => exact ⟨j + 1, q + m, by omega, by omega, by go_num, by go_num, HPL.out.symm, HR2.out⟩
          case measure => simp [intOf]; omega
        · obtain rfl : j = kn := by omega
          have hq' : q = s.size := by rw [hq.out, HLEN.out, ← HKN.out, ← HBN.out]; exact pl_end l0
          subst hq'
          have hN := next_any wr s s.size HSZ.out
          have hnx : nextL s.data.toList (s.size : Int) = (0, 0) := by
            rw [next_nat, List.drop_eq_nil_of_le (by rw [Array.length_toList]; exact Nat.le_refl _)]; rfl
          rw [hnx] at hN
          have hlt2 : ¬ (j : Int) < (j : Int) := by omega
          have HMM := hid hm.out
          clear hm hq hnx
          go_wp2_with fail
          refine hN.mono ?_
          rintro e w2 ⟨rfl, hm2⟩
          have HR2 := hid (HMM.out.trans hm2)
          clear hm2 hN
          go_wp2_with fail
          have hB := bad_any w2 s HSZ.out
          rw [HSD.out, bad_kp] at hB
          refine hB.mono ?_
          rintro e w3 ⟨rfl, hm3⟩
          have HR3 := hid (HR2.out.trans hm3)
          clear hm3 hB
          go_wp2_with fail
          go_ret
          exact ⟨by simp, (HM.out.trans HR3.out).below _ (Nat.le_refl _) (fun _ h => h.elim)⟩
end Go.Proofs.Ytmafdlabbgpacaa

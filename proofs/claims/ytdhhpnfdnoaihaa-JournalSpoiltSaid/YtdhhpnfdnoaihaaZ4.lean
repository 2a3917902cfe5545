import Derived.Test.YtdhhpnfdnoaihaaZ3
/-! X11 -/
/- The walk of JournalKeeps. -/
namespace Go.Proofs.Ytdhhpnfdnoaihaa
open Go.RowKit

/-- bytes that may be written -/
def MRow (w : World) (a : Option Addr) (n : Nat) : Prop := n = 0 ∨ ∃ g cs, a = some ⟨g, 0, none⟩ ∧ Blk w g 5 cs ∧ ∀ k, k < n → ∃ x : UInt8, cs[k]? = some (B x)
theorem MRow.of {w : World} {base : Nat} {a : Option Addr} {n c : Nat} {l : List UInt8} (h : OwnB w base (.slice a n c) l) (hn : n = l.length) : MRow w a n := by
  by_cases h0 : 0 < l.length
  · obtain ⟨g, rest, rfl, _, _, hb⟩ := h.opened h0
    refine .inr ⟨g, _, rfl, hb, fun k hk => ⟨l[k]'(by omega), ?_⟩⟩
    rw [List.getElem?_append_left (by rw [List.length_map]; omega), List.getElem?_map, List.getElem?_eq_getElem (by omega)]; rfl
  · exact .inl (by omega)
theorem MRow.set {w : World} {g n : Nat} {cs : List Value} (hb : Blk w g 5 cs) (hc : ∀ k, k < n → ∃ x : UInt8, cs[k]? = some (B x)) (i : Nat) (x : UInt8) : MRow (w.setCell ⟨g, i, none⟩ (B x)) (some ⟨g, 0, none⟩) n := by
  refine .inr ⟨g, _, rfl, hb.set i _, fun k hk => ?_⟩
  obtain ⟨y, hy⟩ := hc k hk
  by_cases e : i = k
  · subst e
    refine ⟨x, ?_⟩
    rw [List.getElem?_set_self (by rcases Nat.lt_or_ge i cs.length with h | h; exact h; rw [List.getElem?_eq_none h] at hy; cases hy)]
  · exact ⟨y, by rw [List.getElem?_set_ne e]; exact hy⟩
def up (x : UInt8) : UInt8 := x + 1
theorem up_wrap (x : UInt8) : IntKind.u8.wrap ((x.toNat : Int) + 1) = ((up x).toNat : Int) := by
  have := x.toNat_lt
  unfold up
  rw [UInt8.toNat_add]
  simp [IntKind.wrap, IntKind.bits, IntKind.signed]
/-- a row of one byte row, opened -/
theorem LRow.one {w : World} {base : Nat} {v : Value} {b : List UInt8} (h : LRow w base v [b]) : ∃ g c a0 c0, v = .slice (some ⟨g, 0, none⟩) 1 c ∧ 1 ≤ c ∧ base ≤ g ∧ (∃ cs, Blk w g 27 (.slice a0 b.length c0 :: cs)) ∧ OwnB w base (.slice a0 b.length c0) b := by
  obtain ⟨vs, h1, h2⟩ := h
  obtain ⟨a0, c0, e, ho⟩ := h2 0 (by simp)
  have hlt := h1.lt
  obtain ⟨g, cap, rest, rfl, _, hb, hc, _⟩ := OwnR.open1 (S := fun _ => True) ⟨row_base h1 (Nat.zero_le _), fun _ _ => trivial⟩ (by simp)
  refine ⟨g, cap, a0, c0, rfl, by simpa using hc, (hlt g rfl).1, ?_, ho⟩
  cases vs with
  | nil => simp at e
  | cons u us =>
    obtain rfl : u = _ := by simpa using e
    exact ⟨us ++ rest, hb⟩
def keepRel (w wr : World) (p j : Nat) (S : Nat → Prop) (st : DSt) (n : Nat) (a : Option Addr) : Prop :=
  Live w wr S p st ∧ IsJ wr j p 0 100 ((n + 16 : Nat) : Int) 1 ∧ MRow wr a n ∧ ∀ g, a = some ⟨g, 0, none⟩ → 0 < n → w.heap.size ≤ g ∧ ¬ S g ∧ g ≠ j
theorem keepRel.set {w wr : World} {p j : Nat} {S : Nat → Prop} {st : DSt} {n : Nat} {g : Nat} {cs : List Value} (h : keepRel w wr p j S st n (some ⟨g, 0, none⟩)) (hb : Blk wr g 5 cs) (hc : ∀ k, k < n → ∃ x : UInt8, cs[k]? = some (B x)) (i : Nat) (hi : i < n) (x : UInt8) :
    keepRel w (wr.setCell ⟨g, i, none⟩ (B x)) p j S st n (some ⟨g, 0, none⟩) := by
  obtain ⟨h1, h2, _, h4⟩ := h
  obtain ⟨h5, h6, h7⟩ := h4 g rfl (by omega)
  have hm : Mod (fun y => y = g) wr (wr.setCell ⟨g, i, none⟩ (B x)) := Mod.set (S := fun y => y = g) (Mod.refl _ _) (.inl rfl) _
  exact ⟨(h1.turn (T := fun y => y = g) (T' := fun y => y = g) (.same hm) (fun k hk e => by subst e; exact h6 hk) (fun k e => by subst e; exact h5)).1, hm.blk h2 (fun e => h7 e.symm), MRow.set hb hc i x, h4⟩
theorem rest_new : Rest (DSt.new 100) := ⟨⟨rfl, by decide⟩, rfl, fun s hs => by simp [DSt.new] at hs; subst hs; simp [zeros64]⟩
theorem keep_law (b : List UInt8) (hb : b.length ≤ 3000) : ((DSt.new 100).append 0 0 b).2 = 0 ∧ Rest ((DSt.new 100).append 0 0 b).1 ∧ ((DSt.new 100).append 0 0 b).1.last.length = 100 ∧ jopen (area ((DSt.new 100).append 0 0 b).1 0 (b.length + 16)) 1 = some [b] := by
  have hl : (DSt.new 100).last.length = 100 := by simp [DSt.new]
  obtain ⟨h1, h2, h3, h4⟩ := rest_new.appended 0 100 0 b (by rw [hl]; omega) (by omega)
  rw [hl] at h3
  refine ⟨h1, h2, h3, ?_⟩
  rw [h2.area 0 (b.length + 16) (by rw [h3]; omega), show b.length + 16 = 0 + b.length + 16 by omega, h4, List.take_zero, List.nil_append, show frameL b = frames [b] by simp [frames]]
  exact open_frames [b] (by intro x hx; simp at hx; subst hx; omega)
set_option maxRecDepth 100000 in
set_option maxHeartbeats 1600000 in
theorem JournalKeeps_walk (w : World) (v0 : Value) (b : List UInt8) (w0 : VBytes w v0 b) :
    Calls Try.prog 13 #[v0] w fun e w' => e = .returned (.bool true) ∧ Below w.heap.size w w' := by
  obtain ⟨a, cap, rfl, hlen, hrd⟩ := w0
  have HRD := hid hrd
  clear hrd
  go_enter Try.func13, Try.ntmps13
  go_wp2_with fail
  refine (live_new w w (Mod.refl _ _) 100 100 (by omega)).mono ?_
  rintro e w2 ⟨p, S, rfl, hl, _, _⟩
  have HL := hid hl
  clear hl
  go_wp2_with fail
  refine (open0_any w w2 S p (DSt.new 100) HL.out 100 (by simp [DSt.new]) rfl).mono ?_
  rintro e w3 ⟨j, rfl, hj, hjn, hm, hl⟩
  have HL3 := hid hl
  have HJ3 := hid hj
  have HJS := hid (show ¬ S j from fun hs => by have := HL.out.lt j hs; omega)
  have HJ0 := hid (Nat.le_trans HL.out.2.1.size hjn)
  clear hj hjn hm hl HL
  go_wp2_with fail
  refine (awake5_any w3).mono ?_
  rintro e w4 ⟨rfl, hm⟩
  have HL4 := hid (HL3.out.step hm)
  have HJ4 := hid (show IsJ w4 j p 0 100 0 0 from hm.blk HJ3.out (fun h => h))
  clear hm HL3 HJ3
  by_cases hbig : 3000 < b.length
  · have hbig' : (3000 : Int) < (b.length : Int) := by omega
    go_wp2_with fail
    refine (awake5_any w4).mono ?_
    rintro e w5 ⟨rfl, hm⟩
    have HL5 := hid (HL4.out.step hm)
    clear hm
    go_wp2_with fail
    go_ret
    exact ⟨rfl, HL5.out.2.1.below _ (Nat.le_refl _) (fun _ h => h.elim)⟩
  · have hbig' : ¬ (3000 : Int) < (b.length : Int) := by omega
    have HRD4 := hid (HL4.out.2.1.rd HRD.out (fun _ _ h => h))
    go_wp2_with (at_builtin; first | (refine wpList_append_b2 rfl (.tmp 35) (.tmp 36) rfl w4.heap.size _ [] rfl (OwnB.nil _ _) a b b.length cap rfl rfl HRD4.out (by simp; omega) (Nat.le_refl _) b rfl b.length rfl None w4 (Mod.refl _ _) (Nat.le_refl _) ?_; intro va vcap w5 HO HG))
    have HK := hid (keep_law b (by omega))
    obtain ⟨ra, rc, re, hrd5⟩ := HO.out.rd
    obtain ⟨rfl, rfl⟩ : va = ra ∧ vcap = rc := by cases re; exact ⟨rfl, rfl⟩
    have HL5 := hid (HL4.out.step HG.out)
    have HJ5 := hid (show IsJ w5 j p 0 100 ((0 : Nat) : Int) ((0 : Nat) : Int) from HG.out.blk HJ4.out (fun h => h))
    have HOK := hid (append_ok HL5.out (fr := 0) (to := 100) (en := 0) (ct := 0) HJ5.out HJS.out HJ0.out va vcap b.length b rfl hrd5 (by simp [DSt.new]) (by omega) (by omega) (by omega) (by omega) rfl (by simp [DSt.new]) HK.out.1)
    clear hrd5 re
    refine HOK.out.mono ?_
    rintro e w6 ⟨S6, rfl, hl6, hj6, hm6, hS6⟩
    have HOW := hid (HO.out.kept hm6 (fun k hk hs => by
      have h1 := (HO.out.lt k hk).1
      rcases hs with hs | hs
      · have := HL4.out.lt k hs; omega
      · have := HJ4.out.lt; omega))
    have HR6 : Hid (keepRel w w6 p j S6 ((DSt.new 100).append 0 0 b).1 b.length va) := hid ⟨hl6, by simpa using hj6, MRow.of HOW.out rfl, fun g hg h0 => by
      subst hg
      have h1 := HO.out.lt g rfl
      refine ⟨Nat.le_trans HL4.out.2.1.size h1.1, fun hs => ?_, fun e => ?_⟩
      · have := HL4.out.lt g (hS6 g h1.2 hs); omega
      · have := HJ4.out.lt; omega⟩
    have HJS6 := hid (show ¬ S6 j from fun hs => HJS.out (hS6 j HJ5.out.lt hs))
    clear hl6 hj6 hm6 hS6 HOK HO HOW HG HL5 HJ5
    generalize hst : ((DSt.new 100).append 0 0 b).1 = st at *
    clear hst
    have hbl := HK.out
    go_wp2_with fail
    go_loopw [8] (fun i wr => ∃ k : Nat, k ≤ b.length ∧ i = .int .i64 k ∧ Hid (keepRel w wr p j S6 st b.length va)) (fun i _ => b.length - (intOf i).toNat)
    case atStart => exact ⟨0, by omega, rfl, HR6.out⟩
    case round =>
      obtain ⟨k, hk, rfl, hr⟩ := hrel
      clear HR6
      by_cases hlt : k < b.length
      · have hlt' : (k : Int) < (b.length : Int) := by omega
        rcases hr.out.2.2.1 with h0 | ⟨g, cs, rfl, hb, hc⟩
        · omega
        obtain ⟨x, hx⟩ := hc k hlt
        have hcell : wr.cell? ⟨g, 0 + k, none⟩ = some (.int .u8 (x.toNat : Int)) := by rw [Nat.zero_add]; exact hb.is hx
        have hfr : wr.frozen? ⟨g, 0 + k, none⟩ = false := by rw [Nat.zero_add]; exact hb.free k
        rw [Nat.zero_add] at hcell hfr
        have hup := up_wrap x
        have HN := hid (hr.out.set hb hc k hlt (up x))
        clear hb hc hx hr
        generalize b.length = n at *
        go_wp2_with fail
        go_roundw
        case rel => exact ⟨k + 1, by omega, by go_num, HN.out⟩
        case measure => simp [intOf]; omega
      · obtain rfl : k = b.length := by omega
        have hlt' : ¬ (b.length : Int) < (b.length : Int) := by omega
        have HL8 := hid hr.out.1
        have HJ8 := hid hr.out.2.1
        clear hr
        have HE := hid (end_any HJ8.out)
        have HO := hid (open_any w wr S6 p st HL8.out 0 100 (b.length + 16) 1 (by have := HK.out.2.2.1; omega) (by omega) (by have := HK.out.2.1; exact this.calm.down))
        have hjo := HK.out.2.2.2
        rw [hjo] at HO
        clear hjo
        go_wp2_with fail
        refine HE.out.mono ?_
        rintro e w9 ⟨rfl, rfl⟩
        go_wp2_with fail
        refine HO.out.mono ?_
        rintro e w9 ⟨hm9, ⟨ls, j2, v, hls, rfl, _, _, hrow⟩ | ⟨h, _⟩⟩
        · obtain rfl : ls = [b] := by cases hls; rfl
          have HM9 := hid hm9
          have HRW := hid hrow
          have HRD9 := hid ((HL8.out.2.1.trans hm9).rd HRD.out (fun _ _ h => h))
          clear hm9 hrow HE HO hls
          obtain ⟨g, c, a0, c0, rfl, hc1, hg, ⟨cs, hbk⟩, ho⟩ := HRW.out.one
          have hcell : w9.cell? ⟨g, 0, none⟩ = some (.slice a0 b.length c0) := hbk.is rfl
          have HBK := hid hbk
          have HOW := hid ho
          have HG := hid hg
          obtain ⟨ra, rc, re, hrd0⟩ := ho.rd
          obtain ⟨rfl, rfl⟩ : a0 = ra ∧ c0 = rc := by cases re; exact ⟨rfl, rfl⟩
          have hs1 : ∀ m, (convert 27 9 (.slice a0 b.length c0)).run Try.prog (w9.drewN m) = .ok (Str b) (w9.drewN m) := fun m => str_rd (show Rd (w9.drewN m) a0 b from hrd0) _ _ rfl
          have hs2 : ∀ m, (convert 27 9 (.slice a b.length cap)).run Try.prog (w9.drewN m) = .ok (Str b) (w9.drewN m) := fun m => str_rd (show Rd (w9.drewN m) a b from HRD9.out) _ _ rfl
          clear hbk ho hg re hrd0
          obtain ⟨ss, hss⟩ : ∃ ss, Str b = .string ss := ⟨_, rfl⟩
          rw [hss] at hs1 hs2
          clear hss
          have HR9 : Hid (keepRel w w9 p j S6 st b.length a0) := hid ⟨HL8.out.step HM9.out, HM9.out.blk HJ8.out (fun h => h), MRow.of HOW.out rfl, fun g hg h0 => by
            subst hg
            have h1 := HOW.out.lt g rfl
            exact ⟨Nat.le_trans HL8.out.2.1.size h1.1, fun hs => by have := HL8.out.lt g hs; omega, fun e => by have := HJ8.out.lt; omega⟩⟩
          generalize hbn : b.length = n at *
          have HBN := hid hbn
          clear hbn
          go_wp2_with fail
          go_quiet (fail)
          clear hs1 hs2 hcell
          go_wp2_with fail
          go_loopw [11] (fun i wr => ∃ k : Nat, k ≤ n ∧ i = .int .i64 k ∧ Hid (keepRel w wr p j S6 st n a0) ∧ Hid (Blk wr g 27 (.slice a0 n c0 :: cs))) (fun i _ => n - (intOf i).toNat)
          case atStart => exact ⟨0, by omega, rfl, hid ⟨HR9.out.1.step (mod_drewN _ _), HR9.out.2⟩, HBK.out⟩
          case round =>
            obtain ⟨k, hk, rfl, hr, hbr⟩ := hrel
            have hcell : wr.cell? ⟨g, 0, none⟩ = some (.slice a0 n c0) := hbr.out.is rfl
            clear HR9
            by_cases hlt : k < n
            · have hlt' : (k : Int) < (n : Int) := by omega
              rcases hr.out.2.2.1 with h0 | ⟨g0, cs0, rfl, hb, hc⟩
              · omega
              obtain ⟨x, hx⟩ := hc k hlt
              have hfr : wr.frozen? ⟨g0, k, none⟩ = false := hb.free k
              have hc0 : wr.cell? ⟨g0, k, none⟩ = some (.int .u8 (x.toNat : Int)) := hb.is hx
              have HN := hid (hr.out.set hb hc k hlt 238)
              have HNB := hid (hbr.out.set_other (a := ⟨g0, k, none⟩) (fun e => by
                subst e
                exact absurd (hb.uniq hbr.out).1 (by decide)) (B 238))
              clear hb hc hx hr hbr
              go_wp2_with fail
              go_roundw
              case rel => exact ⟨k + 1, by omega, by go_num, HN.out, HNB.out⟩
              case measure => simp [intOf]; omega
            · obtain rfl : k = n := by omega
              have hlt' : ¬ (k : Int) < (k : Int) := by omega
              have HLA := hid hr.out.1
              have HJA := hid hr.out.2.1
              clear hr hbr
              have HE := hid (end_any HJA.out)
              have hgo := open_any w wr S6 p st HLA.out 0 100 (k + 16) 1 (by have := HK.out.2.2.1; omega) (by omega) (by have := HK.out.2.1; exact this.calm.down)
              rw [HK.out.2.2.2] at hgo
              have HO := hid hgo
              clear hgo
              go_wp2_with fail
              refine HE.out.mono ?_
              rintro e w11 ⟨rfl, rfl⟩
              go_wp2_with fail
              refine HO.out.mono ?_
              rintro e w11 ⟨hm11, ⟨ls, j3, v, hls, rfl, _, _, hrow⟩ | ⟨h, _⟩⟩
              · obtain rfl : ls = [b] := by cases hls; rfl
                have HMB := hid (HLA.out.2.1.trans hm11)
                have HRDB := hid (HMB.out.rd HRD.out (fun _ _ h => h))
                obtain ⟨g, c, a0, c0, rfl, hc1, _, ⟨cs, hbk⟩, ho⟩ := hrow.one
                have hcell : w11.cell? ⟨g, 0, none⟩ = some (.slice a0 b.length c0) := hbk.is rfl
                obtain ⟨ra, rc, re, hrd0⟩ := ho.rd
                obtain ⟨rfl, rfl⟩ : a0 = ra ∧ c0 = rc := by cases re; exact ⟨rfl, rfl⟩
                have hs1 : ∀ m, (convert 27 9 (.slice a0 b.length c0)).run Try.prog (w11.drewN m) = .ok (Str b) (w11.drewN m) := fun m => str_rd (show Rd (w11.drewN m) a0 b from hrd0) _ _ rfl
                have hs2 : ∀ m, (convert 27 9 (.slice a b.length cap)).run Try.prog (w11.drewN m) = .ok (Str b) (w11.drewN m) := fun m => str_rd (show Rd (w11.drewN m) a b from HRDB.out) _ _ rfl
                obtain ⟨ss, hss⟩ : ∃ ss, Str b = .string ss := ⟨_, rfl⟩
                rw [hss] at hs1 hs2
                rw [HBN.out] at hs1 hs2 hcell
                clear hss hbk ho re hrd0 hm11 hrow HE HO hls
                go_wp2_with fail
                go_quiet (fail)
                go_wp2_with fail
                go_ret
                exact ⟨rfl, (HMB.out.trans (mod_drewN _ _)).below _ (Nat.le_refl _) (fun _ h => h.elim)⟩
              · cases h
        · cases h
end Go.Proofs.Ytdhhpnfdnoaihaa

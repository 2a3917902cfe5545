import Derived.BigQuiet
import Derived.Deep.QuietTactic
import Derived.Test.YtdhhpnfdnoaihaaY3
/-! R5 -/
/- Open of layer 5. -/
namespace Go.Proofs.Ytdhhpnfdnoaihaa
open Go.RowKit

theorem o_info27 : (Try.prog.info? 27).map (fun i => (i.zero, i.size, i.bytes)) = some (some (.slice none 0 0), 1, 24) := by kernel_rfl
def OpenPost (w : World) (p fr to en ct : Nat) (o : Option (List (List UInt8))) (e : Ending) (w' : World) : Prop :=
  Mod None w w' ∧ ((∃ ls j v, o = some ls ∧ e = .returned (.tuple #[.pointer (some ⟨j, 0, none⟩), v, .int .i64 0]) ∧ IsJ w' j p fr to (en : Nat) (ct : Nat) ∧ w.heap.size ≤ j ∧ LRow w' w.heap.size v ls) ∨
    (o = none ∧ e = .returned (.tuple #[.pointer none, .slice none 0 0, .int .i64 52])))
def openRel (w2 wr : World) (A : List UInt8) (k : Nat) (done : List (List UInt8)) (a : Option Addr) (v : Value) : Prop :=
  Rd w2 a (A.drop k) ∧ Split A k done ∧ LRow wr w2.heap.size v done ∧ Mod None w2 wr
theorem row_base {w : World} {base base' : Nat} {e size n : Nat} {v : Value} {xs : List Value} (h : w.ownsRow base e size v n xs) (hb : base' ≤ base) : w.ownsRow base' e size v n xs := by
  obtain ⟨h1, h2⟩ := h
  refine ⟨h1, ?_⟩
  rcases h2 with h2 | ⟨g, cap, cur, rfl, hb', r⟩
  · exact .inl h2
  · exact .inr ⟨g, cap, cur, rfl, Nat.le_trans hb hb', r⟩
theorem LRow.base {w : World} {base base' : Nat} {v : Value} {ls : List (List UInt8)} (h : LRow w base v ls) (hb : base' ≤ base) : LRow w base' v ls := by
  obtain ⟨vs, h1, h2⟩ := h
  refine ⟨vs, row_base h1 hb, fun i hi => ?_⟩
  obtain ⟨a, c, e, ho⟩ := h2 i hi
  exact ⟨a, c, e, ho.base hb⟩
set_option maxRecDepth 100000 in
set_option maxHeartbeats 1600000 in
theorem open_any (w0 w : World) (S : Nat → Prop) (p : Nat) (st : DSt) (h : Live w0 w S p st) (fr to en ct : Nat) (hf : fr ≤ to ∧ to ≤ st.last.length) (hen : en ≤ 64 * (to - fr)) (hd : st.down = false) :
    Calls Try.prog 44 #[.pointer (some ⟨p, 0, none⟩), .int .i64 (fr : Int), .int .i64 (to : Int), .int .i64 (en : Int), .int .i64 (ct : Int)] w (OpenPost w p fr to en ct (jopen (area st fr en) ct)) := by
  have hmost := h.ok.most
  have hto : ¬ (st.last.length : Int) < (to : Int) := by omega
  have hto0 : ¬ (to : Int) < (fr : Int) := by omega
  have hm1 : Mod None w (w.alloc (.cells #[.pointer (some ⟨p, 0, none⟩), .int .i64 (fr : Int), .int .i64 (to : Int), .int .i64 (en : Int), .int .i64 (ct : Int)] 118)) := (Mod.refl _ _).alloc _
  obtain ⟨W, hW⟩ : ∃ W, W = w.alloc (.cells #[.pointer (some ⟨p, 0, none⟩), .int .i64 (fr : Int), .int .i64 (to : Int), .int .i64 (en : Int), .int .i64 (ct : Int)] 118) := ⟨_, rfl⟩
  rw [← hW] at hm1
  have hj : IsJ W w.heap.size p fr to en ct := by rw [hW]; exact Blk.new w 118 _
  have HS := hid (live_size h)
  have HR := hid (room_any hj (by omega))
  have HRM := hid (show ¬ (((to : Int) - (fr : Int)) * 64) < (en : Int) by omega)
  have hal : (area st fr en).length = en := by
    unfold area
    rw [List.length_take, secs_len h.ok hd fr _ (by omega)]; omega
  have HAL := hid hal
  have hbig : en ≤ 4194304 := by omega
  have HLV := hid (h.step hm1)
  have HJ := hid hj
  have HM := hid hm1
  have HD := hid hd
  have HF := hid (And.intro hf hen)
  clear hm1 hj h hd hal hf hen
  generalize hln : st.last.length = ln at *
  generalize hrm : (((to : Int) - (fr : Int)) * 64) = rm at *
  have hrm0 : ¬ rm < (en : Int) := HRM.out
  clear hrm
  have HLN := hid hln
  clear hln
  go_enter Try.func44, Try.ntmps44
  go_wp2_with fail
  refine HS.out.mono ?_
  rintro e w1 ⟨rfl, rfl⟩
  go_wp2_with fail
  rw [← hW]
  have HW := hid hW
  clear hW
  refine HR.out.mono ?_
  rintro e w1 ⟨rfl, n, rfl⟩
  go_wp2_with fail
  have hdn := live_down (HLV.out.step (mod_drewN W n))
  rw [HD.out] at hdn
  refine hdn.mono ?_
  rintro e w1 ⟨rfl, rfl⟩
  clear hdn
  go_wp2_with fail
  refine (area_any w0 (W.drewN n) S p w.heap.size st (HLV.out.step (mod_drewN W n)) fr to en ct HJ.out en HD.out (by rw [HLN.out]; exact HF.out.1) HF.out.2).mono ?_
  rintro e w2 ⟨a, c, rfl, hrd, hc1, hc2, hm2⟩
  have hm3 : Mod None w w2 := HM.out.trans ((mod_drewN W n).trans hm2)
  have HR0 : Hid (openRel w2 w2 (area st fr en) 0 [] a (.slice none 0 0)) := hid ⟨by simpa using hrd, Split.start _, LRow.nil _ _, Mod.refl _ _⟩
  have HJ2 := hid (show IsJ w2 w.heap.size p fr to (en : Nat) (ct : Nat) from ((mod_drewN W n).trans hm2).blk HJ.out (fun h => h))
  have HM2 := hid hm3
  clear hrd hm2 hm3 HR HRM HS
  generalize area st fr en = A at *
  go_wp2_with fail
  clear hrm0 hto hto0
  go_loopw [14, 16, 17, 18, 19] (fun b v _ _ _ wr => ∃ (k : Nat) (a : Option Addr) (c : Nat) (done : List (List UInt8)), b = .slice a (en - k) c ∧ en ≤ k + c ∧ k ≤ en ∧ c ≤ maxLen ∧ Hid (openRel w2 wr A k done a v)) (fun b _ _ _ _ _ => match b with | .slice _ n _ => n | _ => 0)
  case atStart => exact ⟨0, a, c, [], by simp, by omega, by omega, hc2, HR0.out⟩
  case round =>
    obtain ⟨k, a, c, done, rfl, hc, hk, hcm, hr⟩ := hrel
    obtain ⟨hrd, hsp, hlr, hm⟩ := hr.out
    have HRD0 := hid hrd
    have HRD := hid (hm.rd hrd (fun _ _ h => h))
    have HSP := hid hsp
    have HLR := hid hlr
    have HMW := hid hm
    have HM1 := hid (HM2.out.trans hm)
    clear hrd hsp hlr hm HR0 hr
    have HDL := hid (show (A.drop k).length = en - k by rw [List.length_drop, HAL.out])
    generalize hB : A.drop k = Bk at *
    have HB := hid hB
    clear hB
    have HBAD := hid (fun (hlt : k < en) (hf : ¬ jfine Bk) => (HSP.out.bad (by rw [HAL.out]; exact hlt) (by rw [HB.out]; exact hf) ct : jopen A ct = none))
    by_cases hlt : k < en
    · have hlt' : (0 : Int) < ((en - k : Nat) : Int) := by omega
      have hrn := readnew_any wr a c Bk HRD.out (by rw [HDL.out]; omega)
      rw [HDL.out] at hrn
      have HRN := hid hrn
      clear hrn
      go_wp2_with fail
      refine HRN.out.mono ?_
      rintro e w3 ⟨r, rfl, hR, hrsz, hm3⟩
      have HR3 := hid hR
      have HM3 := hid hm3
      have HRS := hid hrsz
      clear hR hm3 hrsz HRN
      go_wp2_with fail
      refine (int_any w3 r Bk 0 false HR3.out (by omega) (by rw [HDL.out]; omega)).mono ?_
      rintro e w4 ⟨hm4, ⟨-, h8, rfl, hR4⟩ | ⟨hn8, rfl, hR4⟩⟩
      · have HM4 := hid (HM3.out.then hm4 (fun i hi e => by have := HRS.out; omega))
        have HR4 := hid hR4
        have H8 := hid h8
        clear hm4 hR4 h8 HR3
        rw [show Bk.drop 0 = Bk from rfl]
        go_wp2_with fail
        refine (int_any w4 r Bk 8 false HR4.out (by have := H8.out; omega) (by rw [HDL.out]; omega)).mono ?_
        rintro e w5 ⟨hm5, ⟨-, h16, rfl, hR5⟩ | ⟨hn16, rfl, hR5⟩⟩
        · have HM5 := hid (HM4.out.then hm5 (fun i hi e => by have := HRS.out; omega))
          have HR5 := hid hR5
          have H16 := hid h16
          clear hm5 hR5 h16 HR4
          have HJL := hid (show jlen Bk = i64 (beN (Bk.take 8)) from rfl)
          have HJS := hid (show jsum Bk = i64 (beN ((Bk.drop 8).take 8)) from rfl)
          rw [← HJL.out, ← HJS.out]
          clear HJL HJS
          generalize hjl : jlen Bk = n at *
          generalize hjs : jsum Bk = s at *
          have HJL := hid hjl
          have HJS := hid hjs
          clear hjl hjs
          go_wp2_with fail
          refine (rbad_any HR5.out).mono ?_
          rintro e w6 ⟨rfl, rfl⟩
          by_cases hneg : n < 0
          · go_wp2_with fail
            go_ret3
            exact ⟨HM1.out.trans HM5.out, .inr ⟨HBAD.out hlt (fun h => by have := h.2.1; rw [HJL.out] at this; omega), rfl⟩⟩
          obtain ⟨nn, rfl⟩ : ∃ nn : Nat, n = (nn : Int) := ⟨n.toNat, by omega⟩
          have HLF := hid (rleft_any HR5.out (by have := H16.out; omega) (by rw [HDL.out]; omega))
          rw [show ((8 + 8 : Nat) : Int) = 16 from rfl, HDL.out] at HLF
          go_wp2_with fail
          refine HLF.out.mono ?_
          rintro e w6 ⟨rfl, m6, rfl⟩
          by_cases hlong : ((en - k : Nat) : Int) - 16 < (nn : Int)
          · go_wp2_with fail
            go_ret3
            exact ⟨(HM1.out.trans HM5.out).trans (mod_drewN _ _), .inr ⟨HBAD.out hlt (fun h => by have := h.2.2.1; rw [HJL.out, HDL.out] at this; omega), rfl⟩⟩
          have hw16 : IntKind.i64.wrap (16 + (nn : Int)) = 16 + (nn : Int) := wrap_in _ (by omega)
          have hb1 : 16 + (nn : Int) ≤ (c : Int) := by omega
          have HM6 := hid (HM5.out.trans (mod_drewN w5 m6))
          clear HLF HR5 HM5 HM4 HM3
          generalize hw6 : w5.drewN m6 = w6 at *
          by_cases h16c : c = 16
          · subst h16c
            have HNN := hid (show nn = 0 by omega)
            go_wp2_with fail
            have HRB := hid (show Rd w6 (a) (jbody Bk nn) by
              have h1 := rd_if (HM6.out.rd HRD.out (fun _ _ h => h)) (c := 16) (by rw [HDL.out]; omega) (by rw [HDL.out]; omega) (vc := 16) (by rw [HDL.out]; omega)
              rw [if_pos rfl] at h1
              exact rd_take h1 nn)
            have HBL := hid (show (jbody Bk nn).length = nn by unfold jbody; rw [List.length_take, List.length_drop, HDL.out]; omega)
            have HSS := hid (show RdSS (w6.alloc (.cells #[.slice (a) nn (0)] 27)) (some ⟨w6.heap.size, 0, none⟩) [jbody Bk nn] from .inr ⟨_, 0, rfl, fun i hi => by
              obtain rfl : i = 0 := by simpa using hi
              exact ⟨_, (Blk.new w6 27 _).is rfl, a, 0, by rw [show [jbody Bk nn][0] = jbody Bk nn from rfl, HBL.out], ((Mod.refl None w6).alloc _).rd HRB.out (fun _ _ h => h), by rw [show [jbody Bk nn][0] = jbody Bk nn from rfl, HBL.out]; omega⟩⟩)
            have HSU := hid (sum_any _ 1 [jbody Bk nn] _ HSS.out (by simp))
            rw [show [jbody Bk nn].flatten = jbody Bk nn by simp] at HSU
            have HQ := hid (show (csum (jbody Bk nn)).toNat < 4294967296 from (csum (jbody Bk nn)).isLt)
            have HFI := hid (show jfine Bk ↔ s = ((csum (jbody Bk nn)).toNat : Int) by
              unfold jfine
              rw [HJL.out, HJS.out, HDL.out]
              exact ⟨fun h => h.2.2.2, fun h => ⟨by have := H16.out; rw [HDL.out] at this; omega, by omega, by omega, h⟩⟩)
            unfold U32 at HSU
            generalize (csum (jbody Bk nn)).toNat = q at *
            have hwq : IntKind.i64.wrap (q : Int) = (q : Int) := wrap_in _ (by have := HQ.out; omega)
            refine HSU.out.mono ?_
            rintro e w7 ⟨rfl, rfl⟩
            clear HSU
            by_cases hsq : s = (q : Int)
            · go_wp2_with fail
              have HM8 := hid (HM6.out.alloc (.cells #[.slice (a) nn (0)] 27))
              have HCL := hid (clone80_any _ (a) (0) (jbody Bk nn) (((Mod.refl None w6).alloc (.cells #[.slice (a) nn (0)] 27)).rd HRB.out (fun _ _ h => h)) (by rw [HBL.out]; omega))
              rw [HBL.out] at HCL
              generalize hw8 : w6.alloc (.cells #[.slice (a) nn (0)] 27) = w8 at *
              have HW8 := hid hw8
              clear hw8 HSS
              have HCL0 : Hid (Calls Try.prog 80 #[.slice a 0 0] w8 (RowPost (jbody Bk nn) w8)) := hid (by have := HCL.out; rw [HNN.out] at this ⊢; exact this)
              clear HCL
              refine HCL0.out.mono ?_
              rintro e w9 ⟨ca, cc, rfl, ho9, hm9⟩
              rw [HBL.out] at ho9 ⊢
              have HM9 := hid (HM8.out.trans hm9)
              have HO9 := hid ho9
              clear HCL0 hm9 ho9 HM8
              obtain ⟨vs, hvs, hel⟩ := HLR.out.step ((HM9.out).alloc (.cells #[.slice ca nn cc] 27))
              have HVS := hid hvs
              have HEL := hid hel
              clear hvs hel
              obtain ⟨i27, hi27, hz27, hs27, hb27⟩ := info_parts o_info27
              have HDK := hid (show done.length ≤ k from by obtain ⟨_, _, _, h, _⟩ := HSP.out; exact h)
              have HO10 := hid ((HO9.out.kept ((Mod.refl None w9).alloc (.cells #[.slice ca nn cc] 27)) (fun _ _ h => h)).base (show w2.heap.size ≤ w8.heap.size from Nat.le_trans (Nat.le_trans HMW.out.size HM6.out.size) (by rw [← HW8.out]; simp)))
              go_wp2_with (at_builtin; go_loud (refine wpList_plain rfl (fun K hK => wp_append_R (.tmp 91) (.tmp 97) 26 rfl 27 i27 (.slice none 0 0) 1 24 v_und26 hi27 hz27 hs27 hb27 rfl (by decide) _ done.length vs rfl (row_base HVS.out (Nat.zero_le _)) _ 1 1 [.slice ca nn cc] rfl rfl ((Blk.new w9 27 #[.slice ca nn cc]).rdv 0 (fun i hi => by rw [Nat.zero_add])) (by intro u hu; simp at hu; subst hu; rfl) (by have := HDK.out; unfold maxLen; omega) (by have := HDK.out; omega) (fun va vc w' h2 h3 h4 => hK _ _ ?_))); have HAP := hid (HVS.out.lt); have HLX := hid (LRow.snoc HVS.out HEL.out (l := jbody Bk nn) (by rw [HBL.out]; exact HO10.out) (by rw [HBL.out]; exact h2.out) h3.out h4.out (Nat.le_trans (Nat.le_trans HMW.out.size HM9.out.size) (by simp))); have HMX := hid ((HMW.out.trans (HM9.out.alloc (.cells #[.slice ca nn cc] 27))).then h3.out (fun i hi hv => by have := (HAP.out i hv).1; omega)); clear h2 h3 h4 HAP HVS HEL HO10)
              go_roundw
              case rel =>
                have hst := HSP.out.step (by rw [HAL.out]; exact hlt) (by rw [HB.out]; exact HFI.out.2 hsq)
                rw [HB.out, HJL.out, Int.toNat_natCast] at hst
                have hrd2 := rd_if HRD0.out (c := 16 + nn) (by rw [HDL.out]; omega) (by rw [HDL.out]; omega) (vc := 16) (by rw [HDL.out]; omega)
                rw [← HB.out, List.drop_drop] at hrd2
                exact ⟨k + (16 + nn), _, 16 - (16 + nn), done ++ [jbody Bk nn], by rw [Nat.sub_sub, if_pos (by rw [HNN.out])], by omega, by omega, by omega, hrd2, hst, HLX.out, HMX.out⟩
              case measure => (show en - k - (16 + nn) < en - k; omega)
            · have hsb : (s != (q : Int)) = true := by simpa using hsq
              go_wp2_with fail
              go_ret3
              exact ⟨HM1.out.trans (HM6.out.alloc _), .inr ⟨HBAD.out hlt (fun h => hsq (HFI.out.1 h)), rfl⟩⟩
          · have h16c' : ¬ 16 = c := fun h => h16c h.symm
            go_wp2_with fail
            have HRB := hid (show Rd w6 (Option.map (fun x => (⟨x.block, x.off + 16, none⟩ : Addr)) a) (jbody Bk nn) by
              have h1 := rd_if (HM6.out.rd HRD.out (fun _ _ h => h)) (c := 16) (by rw [HDL.out]; omega) (by rw [HDL.out]; omega) (vc := c) (by rw [HDL.out]; omega)
              rw [if_neg h16c] at h1
              exact rd_take h1 nn)
            have HBL := hid (show (jbody Bk nn).length = nn by unfold jbody; rw [List.length_take, List.length_drop, HDL.out]; omega)
            have HSS := hid (show RdSS (w6.alloc (.cells #[.slice (Option.map (fun x => (⟨x.block, x.off + 16, none⟩ : Addr)) a) nn (c - 16)] 27)) (some ⟨w6.heap.size, 0, none⟩) [jbody Bk nn] from .inr ⟨_, 0, rfl, fun i hi => by
              obtain rfl : i = 0 := by simpa using hi
              exact ⟨_, (Blk.new w6 27 _).is rfl, Option.map (fun x => (⟨x.block, x.off + 16, none⟩ : Addr)) a, c - 16, by rw [show [jbody Bk nn][0] = jbody Bk nn from rfl, HBL.out], ((Mod.refl None w6).alloc _).rd HRB.out (fun _ _ h => h), by rw [show [jbody Bk nn][0] = jbody Bk nn from rfl, HBL.out]; omega⟩⟩)
            have HSU := hid (sum_any _ 1 [jbody Bk nn] _ HSS.out (by simp))
            rw [show [jbody Bk nn].flatten = jbody Bk nn by simp] at HSU
            have HQ := hid (show (csum (jbody Bk nn)).toNat < 4294967296 from (csum (jbody Bk nn)).isLt)
            have HFI := hid (show jfine Bk ↔ s = ((csum (jbody Bk nn)).toNat : Int) by
              unfold jfine
              rw [HJL.out, HJS.out, HDL.out]
              exact ⟨fun h => h.2.2.2, fun h => ⟨by have := H16.out; rw [HDL.out] at this; omega, by omega, by omega, h⟩⟩)
            unfold U32 at HSU
            generalize (csum (jbody Bk nn)).toNat = q at *
            have hwq : IntKind.i64.wrap (q : Int) = (q : Int) := wrap_in _ (by have := HQ.out; omega)
            refine HSU.out.mono ?_
            rintro e w7 ⟨rfl, rfl⟩
            clear HSU
            by_cases hsq : s = (q : Int)
            · go_wp2_with fail
              have HM8 := hid (HM6.out.alloc (.cells #[.slice (Option.map (fun x => (⟨x.block, x.off + 16, none⟩ : Addr)) a) nn (c - 16)] 27))
              have HCL := hid (clone80_any _ (Option.map (fun x => (⟨x.block, x.off + 16, none⟩ : Addr)) a) (c - 16) (jbody Bk nn) (((Mod.refl None w6).alloc (.cells #[.slice (Option.map (fun x => (⟨x.block, x.off + 16, none⟩ : Addr)) a) nn (c - 16)] 27)).rd HRB.out (fun _ _ h => h)) (by rw [HBL.out]; omega))
              rw [HBL.out] at HCL
              generalize hw8 : w6.alloc (.cells #[.slice (Option.map (fun x => (⟨x.block, x.off + 16, none⟩ : Addr)) a) nn (c - 16)] 27) = w8 at *
              have HW8 := hid hw8
              clear hw8 HSS
              refine HCL.out.mono ?_
              rintro e w9 ⟨ca, cc, rfl, ho9, hm9⟩
              rw [HBL.out] at ho9 ⊢
              have HM9 := hid (HM8.out.trans hm9)
              have HO9 := hid ho9
              clear HCL hm9 ho9 HM8
              obtain ⟨vs, hvs, hel⟩ := HLR.out.step ((HM9.out).alloc (.cells #[.slice ca nn cc] 27))
              have HVS := hid hvs
              have HEL := hid hel
              clear hvs hel
              obtain ⟨i27, hi27, hz27, hs27, hb27⟩ := info_parts o_info27
              have HDK := hid (show done.length ≤ k from by obtain ⟨_, _, _, h, _⟩ := HSP.out; exact h)
              have HO10 := hid ((HO9.out.kept ((Mod.refl None w9).alloc (.cells #[.slice ca nn cc] 27)) (fun _ _ h => h)).base (show w2.heap.size ≤ w8.heap.size from Nat.le_trans (Nat.le_trans HMW.out.size HM6.out.size) (by rw [← HW8.out]; simp)))
              go_wp2_with (at_builtin; go_loud (refine wpList_plain rfl (fun K hK => wp_append_R (.tmp 91) (.tmp 97) 26 rfl 27 i27 (.slice none 0 0) 1 24 v_und26 hi27 hz27 hs27 hb27 rfl (by decide) _ done.length vs rfl (row_base HVS.out (Nat.zero_le _)) _ 1 1 [.slice ca nn cc] rfl rfl ((Blk.new w9 27 #[.slice ca nn cc]).rdv 0 (fun i hi => by rw [Nat.zero_add])) (by intro u hu; simp at hu; subst hu; rfl) (by have := HDK.out; unfold maxLen; omega) (by have := HDK.out; omega) (fun va vc w' h2 h3 h4 => hK _ _ ?_))); have HAP := hid (HVS.out.lt); have HLX := hid (LRow.snoc HVS.out HEL.out (l := jbody Bk nn) (by rw [HBL.out]; exact HO10.out) (by rw [HBL.out]; exact h2.out) h3.out h4.out (Nat.le_trans (Nat.le_trans HMW.out.size HM9.out.size) (by simp))); have HMX := hid ((HMW.out.trans (HM9.out.alloc (.cells #[.slice ca nn cc] 27))).then h3.out (fun i hi hv => by have := (HAP.out i hv).1; omega)); clear h2 h3 h4 HAP HVS HEL HO10)
              go_roundw
              case rel =>
                have hst := HSP.out.step (by rw [HAL.out]; exact hlt) (by rw [HB.out]; exact HFI.out.2 hsq)
                rw [HB.out, HJL.out, Int.toNat_natCast] at hst
                have hrd2 := rd_if HRD0.out (c := 16 + nn) (by rw [HDL.out]; omega) (by rw [HDL.out]; omega) (vc := c) (by rw [HDL.out]; omega)
                rw [← HB.out, List.drop_drop] at hrd2
                exact ⟨k + (16 + nn), _, c - (16 + nn), done ++ [jbody Bk nn], by rw [Nat.sub_sub], by omega, by omega, by omega, hrd2, hst, HLX.out, HMX.out⟩
              case measure => (show en - k - (16 + nn) < en - k; omega)
            · have hsb : (s != (q : Int)) = true := by simpa using hsq
              go_wp2_with fail
              go_ret3
              exact ⟨HM1.out.trans (HM6.out.alloc _), .inr ⟨HBAD.out hlt (fun h => hsq (HFI.out.1 h)), rfl⟩⟩
        · have HM5 := hid (HM4.out.then hm5 (fun i hi e => by have := HRS.out; omega))
          have HR5 := hid hR5
          have HN16 := hid hn16
          clear hm5 hR5 hn16 HR4
          go_wp2_with fail
          refine (rbad_any HR5.out).mono ?_
          rintro e w6 ⟨rfl, rfl⟩
          go_wp2_with fail
          go_ret3
          exact ⟨HM1.out.trans HM5.out, .inr ⟨HBAD.out hlt (fun h => HN16.out ⟨trivial, by have := h.1; omega⟩), rfl⟩⟩
      · have HM4 := hid (HM3.out.then hm4 (fun i hi e => by have := HRS.out; omega))
        have HR4 := hid hR4
        have HN8 := hid hn8
        clear hm4 hR4 hn8 HR3
        go_wp2_with fail
        refine (int_any w4 r Bk 0 true HR4.out (by omega) (by rw [HDL.out]; omega)).mono ?_
        rintro e w5 ⟨hm5, ⟨h, _⟩ | ⟨_, rfl, hR5⟩⟩
        · cases h
        · have HM5 := hid (HM4.out.then hm5 (fun i hi e => by have := HRS.out; omega))
          have HR5 := hid hR5
          clear hm5 hR5 HR4
          go_wp2_with fail
          refine (rbad_any HR5.out).mono ?_
          rintro e w6 ⟨rfl, rfl⟩
          go_wp2_with fail
          go_ret3
          exact ⟨HM1.out.trans HM5.out, .inr ⟨HBAD.out hlt (fun h => HN8.out ⟨trivial, by have := h.1; omega⟩), rfl⟩⟩
    · obtain rfl : k = en := by omega
      have hlt' : ¬ (0 : Int) < ((k - k : Nat) : Int) := by omega
      obtain ⟨va, vc, rfl⟩ := HLR.out.shape
      have HDN := hid (Split.done (A := A) (done := done) (by rw [HAL.out]; exact HSP.out) ct)
      have HLL := hid HLR.out
      generalize hdl : done.length = dl at *
      have HDL2 := hid hdl
      clear hdl
      by_cases hct : dl = ct
      · subst hct
        have hct' : (dl : Int) = (dl : Int) := rfl
        go_wp2_with fail
        go_ret3
        exact ⟨HM1.out, .inl ⟨done, w.heap.size, _, by rw [HDN.out, if_pos trivial], rfl, HMW.out.blk HJ2.out (fun h => h), Nat.le_refl _, HLL.out.base HM2.out.size⟩⟩
      · have hct' : ¬ (dl : Int) = (ct : Int) := by omega
        go_wp2_with fail
        go_ret3
        exact ⟨HM1.out, .inr ⟨by rw [HDN.out, if_neg hct], rfl⟩⟩
end Go.Proofs.Ytdhhpnfdnoaihaa

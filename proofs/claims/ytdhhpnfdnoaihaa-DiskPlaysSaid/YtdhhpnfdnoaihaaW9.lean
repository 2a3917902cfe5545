/- The walk of DiskPlays. -/
import Derived.Deep.RegionHeld3
import Derived.Test.YtdhhpnfdnoaihaaE8
namespace Go.Proofs.Ytdhhpnfdnoaihaa
open Go.RowKit

set_option maxRecDepth 100000 in
set_option maxHeartbeats 4000000 in
theorem DiskPlays_walk (w : World) (a0 : Int) (_ : (Lit.int .i64 a0).wf = true) (v1 : Value) (l1 : List Deed) (w1 : VDeeds w v1 l1) :
    Calls Try.prog 11 #[.int .i64 a0, v1] w fun e w' => e = .returned (.bool true) ∧ Below w.heap.size w w' := by
  have kc := bytes_const
  obtain ⟨a, cap, rfl, hll, hseen⟩ := w1
  have HS := hid (fun w' hm k hk => VDeeds.at hseen (w' := w') hm (k := k) hk)
  have hl1 : l1.length < 2990000000000 := by omega
  clear hseen hll
  obtain ⟨n, hn⟩ : ∃ n : Nat, (n : Int) = min (max a0 1) 65536 := ⟨(min (max a0 1) 65536).toNat, by omega⟩
  have HNN := hid hn
  clear hn
  go_enter Try.func11, Try.ntmps11
  go_wp2_with fail
  refine (live_new w w (Mod.refl _ _) a0 n HNN.out).mono ?_
  rintro e w2 ⟨p, S, rfl, hl, _, _⟩
  have HL := hid hl
  clear hl
  go_wp2_with fail
  refine (rnew_any w2 a0 n HNN.out).mono ?_
  rintro e w3 ⟨q, T, rfl, hr, hm, hT⟩
  have HP0 : Hid (∃ S T N st, Live w w3 S p st ∧ IsRef w3 T q N st ∧ (∀ k, S k → ¬ T k) ∧ (∀ k, T k → w.heap.size ≤ k) ∧ N ≤ 0 ∧ st.waits.length ≤ 0) :=
    hid ⟨S, T, 0, DSt.new n, HL.out.step hm, hr, fun k hk ht => by have := HL.out.lt k hk; have := hT k ht; omega, fun k hk => Nat.le_trans HL.out.2.1.size (hT k hk), Nat.le_refl _, Nat.le_refl _⟩
  clear hr hm hT HL HNN
  go_wp2_with fail
  refine (awake3_any w3).mono ?_
  rintro e w4 ⟨rfl, hm⟩
  have HP1 : Hid (playRel w w4 p q 0) := by
    obtain ⟨S, T, N, st, a1, a2, a3, a4, a5, a6⟩ := HP0.out
    exact ⟨S, T, N, st, a1.step hm, a2.keep hm (fun _ _ h => h), a3, a4, a5, a6⟩
  clear hm HP0
  go_wp2_with fail
  go_loopw [5, 7] (fun dv i wr => ∃ (k p : Nat), k ≤ l1.length ∧ i = .int .i64 k ∧ dv = .pointer (some ⟨p, 0, none⟩) ∧ Hid (playRel w wr p q k)) (fun _ i _ => l1.length - (intOf i).toNat)
  case atStart => exact ⟨0, p, by omega, rfl, rfl, HP1.out⟩
  case round =>
    obtain ⟨k, p, hk, rfl, rfl, hr⟩ := hrel
    obtain ⟨S, T, N, st, b1, b2, b3, b4, hN, b6⟩ := hr.out
    by_cases hlt : k < l1.length
    · obtain ⟨b, o, da, dc, rfl, h0, h1, h2, h3, hdr, hdb, hdl, _, bi, bn⟩ := HS.out wr b1.2.1 k hlt
      have HDL := hid hdl
      have HBN := hid (And.intro bi bn)
      have HRD := hid (fun w' (hm : Mod None w w') => rd_late hdr hdb b1.2.1 hm)
      have HN := hid hN
      clear hdl bi bn hr hdr hdb b6
      generalize l1[k] = dd at *
      obtain ⟨dk, di, dn, ddat⟩ := dd
      simp only at h0 h1 h2 h3
      have HP := hid (Play.start b1 b2 b3 b4 [.int .i64 dk, .int .i64 di, .int .i64 dn, .slice da ddat.length dc])
      clear b1 b2 b3 b4 hN
      obtain ⟨v, hv⟩ : ∃ v, v = wr.heap.size := ⟨_, rfl⟩
      obtain ⟨wv, hwv⟩ : ∃ wv, wv = wr.alloc (.cells #[.int .i64 dk, .int .i64 di, .int .i64 dn, .slice da ddat.length dc] 47) := ⟨_, rfl⟩
      have HPV : Hid (Play w wv S T p q N st st v [.int .i64 dk, .int .i64 di, .int .i64 dn, .slice da ddat.length dc]) := by rw [hwv, hv]; exact HP.out
      clear HP
      have hc0 : wv.cell? ⟨v, 0, none⟩ = some (.int .i64 dk) := HPV.out.var.is rfl
      have hc1 : wv.cell? ⟨v, 1, none⟩ = some (.int .i64 di) := HPV.out.var.is rfl
      have hc2 : wv.cell? ⟨v, 2, none⟩ = some (.int .i64 dn) := HPV.out.var.is rfl
      have hc3 : wv.cell? ⟨v, 3, none⟩ = some (.slice da ddat.length dc) := HPV.out.var.is rfl
      by_cases k1 : dk = 1
      · subst k1
        go_wp2_with fail
        rw [← hwv, ← hv]
        clear hwv hv h0 h1 h2 h3
        obtain ⟨st2, e2, hwr⟩ : ∃ st2 e2, st.write di ddat = (st2, e2) := ⟨_, _, rfl⟩
        have HWR := hid hwr
        clear hwr
        have HPD := hid (HPV.out.step (Mod.refl None wv).drew)
        have HNB := hid (show N < 4000000000000 by have := HN.out; omega)
        have hca := live_write HPD.out.live di da dc _ ddat rfl (HRD.out _ HPD.out.live.2.1) HDL.out (by have := waits_le HPV.out.ref; have := HN.out; omega)
        rw [HWR.out] at hca
        have HCA := hid hca
        clear hca HPV hc0 hc2
        refine wp_region_held_drew (S := fun w' => w'.cell? ⟨v, 1, none⟩ = some (.int .i64 di) ∧ w'.cell? ⟨v, 3, none⟩ = some (.slice da ddat.length dc)) (by kernel_rfl) ?_ (fun hHeld => ?_)
        · first | exact ⟨hy1, hy3⟩ | exact ⟨hx1, hx3⟩ | exact ⟨hc1, hc3⟩
        refine wpAnyH_take (i := 0) (oi := { dst := some 38, op := Op.move (Operand.tmp 5), type := 37, pos := "law.go:57", after := #[], guard := none }) (v := ?vo1_0) rfl (by kernel_rfl) (by kernel_rfl) (by kernel_rfl) (fun _ _ _ h => h) (Or.inl ⟨by rfl, ?yo1_0⟩) (by assumption) ?ro1_0
        case yo1_0 => (intro w hSw; (try dsimp only at hSw); go_simp; (try with_reducible rfl))
        try simp only [Act.put, List.setIfInBounds_toArray, List.set_cons_zero, List.set_cons_succ]
        refine wpAnyH_take (i := 1) (oi := { dst := some 39, op := Op.fieldAddr 47 (Operand.tmp 8) 1, type := 0, pos := "law.go:57", after := #[], guard := none }) (v := ?vo2_1) rfl (by kernel_rfl) (by kernel_rfl) (by kernel_rfl) (fun _ _ _ h => h) (Or.inl ⟨by rfl, ?yo2_1⟩) (by assumption) ?ro2_1
        case yo2_1 => (intro w hSw; (try dsimp only at hSw); go_simp; (try with_reducible rfl))
        try simp only [Act.put, List.setIfInBounds_toArray, List.set_cons_zero, List.set_cons_succ]
        refine wpAnyH_take (i := 2) (oi := { dst := some 40, op := Op.load 3 (Operand.tmp 39), type := 3, pos := "law.go:57", after := #[{ on := 1, ground := Ground.data }], guard := none }) (v := ?vo3_2) rfl (by kernel_rfl) (by kernel_rfl) (by kernel_rfl) (fun _ _ _ h => h) (Or.inl ⟨by rfl, ?yo3_2⟩) (by assumption) ?ro3_2
        case yo3_2 => (intro w hSw; (try dsimp only at hSw); go_simp; (try with_reducible rfl))
        try simp only [Act.put, List.setIfInBounds_toArray, List.set_cons_zero, List.set_cons_succ]
        refine wpAnyH_take (i := 3) (oi := { dst := some 41, op := Op.fieldAddr 47 (Operand.tmp 8) 3, type := 0, pos := "law.go:57", after := #[], guard := none }) (v := ?vo4_3) rfl (by kernel_rfl) (by kernel_rfl) (by kernel_rfl) (fun _ _ _ h => h) (Or.inl ⟨by rfl, ?yo4_3⟩) (by assumption) ?ro4_3
        case yo4_3 => (intro w hSw; (try dsimp only at hSw); go_simp; (try with_reducible rfl))
        try simp only [Act.put, List.setIfInBounds_toArray, List.set_cons_zero, List.set_cons_succ]
        refine wpAnyH_take (i := 4) (oi := { dst := some 42, op := Op.load 27 (Operand.tmp 41), type := 27, pos := "law.go:57", after := #[{ on := 3, ground := Ground.data }], guard := none }) (v := ?vo5_4) rfl (by kernel_rfl) (by kernel_rfl) (by kernel_rfl) (fun _ _ _ h => h) (Or.inl ⟨by rfl, ?yo5_4⟩) (by assumption) ?ro5_4
        case yo5_4 => (intro w hSw; (try dsimp only at hSw); go_simp; (try with_reducible rfl))
        try simp only [Act.put, List.setIfInBounds_toArray, List.set_cons_zero, List.set_cons_succ]
        refine wpAnyH_take (i := 6) (oi := { dst := some 44, op := Op.move (Operand.tmp 6), type := 55, pos := "law.go:57", after := #[], guard := none }) (v := ?vo6_6) rfl (by kernel_rfl) (by kernel_rfl) (by kernel_rfl) (fun _ _ _ h => h) (Or.inl ⟨by rfl, ?yo6_6⟩) (by assumption) ?ro6_6
        case yo6_6 => (intro w hSw; (try dsimp only at hSw); go_simp; (try with_reducible rfl))
        try simp only [Act.put, List.setIfInBounds_toArray, List.set_cons_zero, List.set_cons_succ]
        refine wpAnyH_take (i := 7) (oi := { dst := some 45, op := Op.fieldAddr 47 (Operand.tmp 8) 1, type := 0, pos := "law.go:57", after := #[], guard := none }) (v := ?vo7_7) rfl (by kernel_rfl) (by kernel_rfl) (by kernel_rfl) (fun _ _ _ h => h) (Or.inl ⟨by rfl, ?yo7_7⟩) (by assumption) ?ro7_7
        case yo7_7 => (intro w hSw; (try dsimp only at hSw); go_simp; (try with_reducible rfl))
        try simp only [Act.put, List.setIfInBounds_toArray, List.set_cons_zero, List.set_cons_succ]
        refine wpAnyH_take (i := 8) (oi := { dst := some 46, op := Op.load 3 (Operand.tmp 45), type := 3, pos := "law.go:57", after := #[{ on := 7, ground := Ground.data }], guard := none }) (v := ?vo8_8) rfl (by kernel_rfl) (by kernel_rfl) (by kernel_rfl) (fun _ _ _ h => h) (Or.inl ⟨by rfl, ?yo8_8⟩) (by assumption) ?ro8_8
        case yo8_8 => (intro w hSw; (try dsimp only at hSw); go_simp; (try with_reducible rfl))
        try simp only [Act.put, List.setIfInBounds_toArray, List.set_cons_zero, List.set_cons_succ]
        refine wpAnyH_take (i := 9) (oi := { dst := some 47, op := Op.fieldAddr 47 (Operand.tmp 8) 3, type := 0, pos := "law.go:57", after := #[], guard := none }) (v := ?vo9_9) rfl (by kernel_rfl) (by kernel_rfl) (by kernel_rfl) (fun _ _ _ h => h) (Or.inl ⟨by rfl, ?yo9_9⟩) (by assumption) ?ro9_9
        case yo9_9 => (intro w hSw; (try dsimp only at hSw); go_simp; (try with_reducible rfl))
        try simp only [Act.put, List.setIfInBounds_toArray, List.set_cons_zero, List.set_cons_succ]
        refine wpAnyH_take (i := 10) (oi := { dst := some 48, op := Op.load 27 (Operand.tmp 47), type := 27, pos := "law.go:57", after := #[{ on := 9, ground := Ground.data }], guard := none }) (v := ?vo10_10) rfl (by kernel_rfl) (by kernel_rfl) (by kernel_rfl) (fun _ _ _ h => h) (Or.inl ⟨by rfl, ?yo10_10⟩) (by assumption) ?ro10_10
        case yo10_10 => (intro w hSw; (try dsimp only at hSw); go_simp; (try with_reducible rfl))
        try simp only [Act.put, List.setIfInBounds_toArray, List.set_cons_zero, List.set_cons_succ]
        refine wpAnyH_ready (rs := [5]) (by kernel_rfl) (by simp) ?_
        refine AllReadyH.cons (o := { dst := some 43, op := Op.call { callee := Callee.value (Operand.func 30), args := #[Operand.tmp 38, Operand.tmp 40, Operand.tmp 42], argTypes := #[37, 3, 27] }, type := 40, pos := "law.go:57", after := #[{ on := 0, ground := Ground.data }, { on := 2, ground := Ground.data }, { on := 4, ground := Ground.data }], guard := none }) rfl (fun K hK => ?_) AllReadyH.nil
        go_simp; refine HCA.out.mono ?_; rintro e wx ⟨Sx, rfl, hlx, htx⟩; have HPX := hid (HPD.out.left hlx htx); have hx1 : wx.cell? ⟨v, 1, none⟩ = some (.int .i64 di) := HPX.out.var.is rfl; have hx3 : wx.cell? ⟨v, 3, none⟩ = some (.slice da ddat.length dc) := HPX.out.var.is rfl; clear hlx htx; go_wp2_with fail
        refine hK.out _ _ ?_ (fun hHeld => ?_)
        · first | exact ⟨hy1, hy3⟩ | exact ⟨hx1, hx3⟩ | exact ⟨hc1, hc3⟩
        clear hK K
        try simp only [Act.put, List.setIfInBounds_toArray, List.set_cons_zero, List.set_cons_succ]
        refine wpAnyH_ready (rs := [11]) (by kernel_rfl) (by simp) ?_
        refine AllReadyH.cons (o := { dst := some 49, op := Op.call { callee := Callee.value (Operand.func 38), args := #[Operand.tmp 44, Operand.tmp 46, Operand.tmp 48], argTypes := #[55, 3, 27] }, type := 3, pos := "law.go:57", after := #[{ on := 6, ground := Ground.data }, { on := 8, ground := Ground.data }, { on := 10, ground := Ground.data }, { on := 5, ground := Ground.chain }], guard := none }) rfl (fun K hK => ?_) AllReadyH.nil
        go_simp; have hra := rwrite_any wx _ q _ _ HPX.out.ref HNB.out di da dc ddat (HRD.out _ HPX.out.live.2.1) HDL.out; rw [HWR.out] at hra; refine hra.mono ?_; rintro e wy ⟨rfl, hry, hmy⟩; have HPL := hid (HPX.out.grow hry hmy); have hy1 : wy.cell? ⟨v, 1, none⟩ = some (.int .i64 di) := HPL.out.var.is rfl; have hy3 : wy.cell? ⟨v, 3, none⟩ = some (.slice da ddat.length dc) := HPL.out.var.is rfl; clear hra hry hmy; go_wp2_with fail
        refine hK.out _ _ ?_ (fun hHeld => ?_)
        · first | exact ⟨hy1, hy3⟩ | exact ⟨hx1, hx3⟩ | exact ⟨hc1, hc3⟩
        clear hK K
        try simp only [Act.put, List.setIfInBounds_toArray, List.set_cons_zero, List.set_cons_succ]
        refine wpAnyH_take (i := 12) (oi := { dst := some 50, op := Op.binOp BinOp.neq 3 (Operand.tmp 43) (Operand.tmp 49) 3, type := 4, pos := "law.go:57", after := #[{ on := 5, ground := Ground.data }, { on := 11, ground := Ground.data }], guard := none }) (v := ?vo11_12) rfl (by kernel_rfl) (by kernel_rfl) (by kernel_rfl) (fun _ _ _ h => h) (Or.inl ⟨by rfl, ?yo11_12⟩) (by assumption) ?ro11_12
        case yo11_12 => (intro w hSw; (try dsimp only at hSw); go_simp; (try with_reducible rfl))
        try simp only [Act.put, List.setIfInBounds_toArray, List.set_cons_zero, List.set_cons_succ]
        refine wpAnyH_done (by kernel_rfl) ?_ _
        clear hx1 hx3 hy1 hy3 HPX
        have hv1 : wy.cell? ⟨v, 1, none⟩ = some (.int .i64 di) := HPL.out.var.is rfl
        obtain ⟨l, e0, hre⟩ : ∃ l e0, (st2).read di = (l, e0) := ⟨_, _, rfl⟩
        have HRE := hid hre
        clear hre
        go_wp2_with fail
        have hrd := live_read HPL.out.live di
        rw [HRE.out] at hrd
        refine hrd.mono ?_
        rintro e wa ⟨aa, rfl, hta, _, _, hma⟩
        have HPA := hid (HPL.out.step hma)
        have HTA := hid hta.rd
        have hv1 : wa.cell? ⟨v, 1, none⟩ = some (.int .i64 di) := HPA.out.var.is rfl
        clear hta hma HPL hrd
        go_wp2_with fail
        have hrr := rread_any wa _ q _ _ HPA.out.ref di
        rw [HRE.out] at hrr
        refine hrr.mono ?_
        rintro e wb ⟨ab, rfl, htb, hmb⟩
        have HPB := hid (HPA.out.step hmb)
        have hs1 := str_rd (hmb.rd HTA.out (fun _ _ h => h)) l.length l.length rfl
        have hs2 := str_rd htb l.length l.length rfl
        clear htb hmb HPA HTA hrr hv1
        unfold Str at hs1 hs2
        go_wp2_with fail
        refine (same_any wb _ _ _ q _ _ HPB.out.live.1 HPB.out.ref).mono ?_
        rintro e wc ⟨rfl, hmc⟩
        have HPC := hid ((HPB.out.step hmc).rel (k := k + 1) (by first | omega | (have := HN.out; omega)))
        clear hmc HPB hs1 hs2
        go_wp2_with fail
        go_roundw
        case rel => exact ⟨k + 1, _, by omega, by go_num, rfl, HPC.out⟩
        case measure => simp [intOf]; omega
      by_cases k2 : dk = 2
      · subst k2
        go_wp2_with fail
        rw [← hwv, ← hv]
        clear hwv hv h0 h1 h2 h3
        refine (live_flush HPV.out.live).mono ?_
        rintro e wx ⟨Sx, rfl, hlx, htx⟩
        have HPX := hid (HPV.out.left hlx htx)
        clear hlx htx HPV hc0 hc1 hc2 hc3
        go_wp2_with fail
        refine (rflush_any wx _ q _ _ HPX.out.ref (by have := HN.out; omega)).mono ?_
        rintro e wy ⟨rfl, hry, hmy⟩
        have HPL := hid (HPX.out.same hry hmy (fun _ h => h))
        clear hry hmy HPX
        have hv1 : wy.cell? ⟨v, 1, none⟩ = some (.int .i64 di) := HPL.out.var.is rfl
        obtain ⟨l, e0, hre⟩ : ∃ l e0, (st.flush.1).read di = (l, e0) := ⟨_, _, rfl⟩
        have HRE := hid hre
        clear hre
        go_wp2_with fail
        have hrd := live_read HPL.out.live di
        rw [HRE.out] at hrd
        refine hrd.mono ?_
        rintro e wa ⟨aa, rfl, hta, _, _, hma⟩
        have HPA := hid (HPL.out.step hma)
        have HTA := hid hta.rd
        have hv1 : wa.cell? ⟨v, 1, none⟩ = some (.int .i64 di) := HPA.out.var.is rfl
        clear hta hma HPL hrd
        go_wp2_with fail
        have hrr := rread_any wa _ q _ _ HPA.out.ref di
        rw [HRE.out] at hrr
        refine hrr.mono ?_
        rintro e wb ⟨ab, rfl, htb, hmb⟩
        have HPB := hid (HPA.out.step hmb)
        have hs1 := str_rd (hmb.rd HTA.out (fun _ _ h => h)) l.length l.length rfl
        have hs2 := str_rd htb l.length l.length rfl
        clear htb hmb HPA HTA hrr hv1
        unfold Str at hs1 hs2
        go_wp2_with fail
        refine (same_any wb _ _ _ q _ _ HPB.out.live.1 HPB.out.ref).mono ?_
        rintro e wc ⟨rfl, hmc⟩
        have HPC := hid ((HPB.out.step hmc).rel (k := k + 1) (by first | omega | (have := HN.out; omega)))
        clear hmc HPB hs1 hs2
        go_wp2_with fail
        go_roundw
        case rel => exact ⟨k + 1, _, by omega, by go_num, rfl, HPC.out⟩
        case measure => simp [intOf]; omega
      by_cases k3 : dk = 3
      · subst k3
        go_wp2_with fail
        rw [← hwv, ← hv]
        clear hwv hv h0 h1 h2 h3
        refine (live_arm HPV.out.live dn HBN.out.2.2).mono ?_
        rintro e wx ⟨Sx, rfl, hlx, htx⟩
        have HPX := hid (HPV.out.left hlx htx)
        have hc2 : wx.cell? ⟨v, 2, none⟩ = some (.int .i64 dn) := HPX.out.var.is rfl
        clear hlx htx HPV hc0 hc1 hc3
        go_wp2_with fail
        refine (rarm_any wx _ q _ _ HPX.out.ref dn HBN.out.2.2).mono ?_
        rintro e wy ⟨rfl, hry, hmy⟩
        have HPL := hid (HPX.out.same hry hmy (fun k h => by subst h; exact HPX.out.own))
        clear hry hmy HPX hc2
        have hv1 : wy.cell? ⟨v, 1, none⟩ = some (.int .i64 di) := HPL.out.var.is rfl
        obtain ⟨l, e0, hre⟩ : ∃ l e0, (st.arm' dn).read di = (l, e0) := ⟨_, _, rfl⟩
        have HRE := hid hre
        clear hre
        go_wp2_with fail
        have hrd := live_read HPL.out.live di
        rw [HRE.out] at hrd
        refine hrd.mono ?_
        rintro e wa ⟨aa, rfl, hta, _, _, hma⟩
        have HPA := hid (HPL.out.step hma)
        have HTA := hid hta.rd
        have hv1 : wa.cell? ⟨v, 1, none⟩ = some (.int .i64 di) := HPA.out.var.is rfl
        clear hta hma HPL hrd
        go_wp2_with fail
        have hrr := rread_any wa _ q _ _ HPA.out.ref di
        rw [HRE.out] at hrr
        refine hrr.mono ?_
        rintro e wb ⟨ab, rfl, htb, hmb⟩
        have HPB := hid (HPA.out.step hmb)
        have hs1 := str_rd (hmb.rd HTA.out (fun _ _ h => h)) l.length l.length rfl
        have hs2 := str_rd htb l.length l.length rfl
        clear htb hmb HPA HTA hrr hv1
        unfold Str at hs1 hs2
        go_wp2_with fail
        refine (same_any wb _ _ _ q _ _ HPB.out.live.1 HPB.out.ref).mono ?_
        rintro e wc ⟨rfl, hmc⟩
        have HPC := hid ((HPB.out.step hmc).rel (k := k + 1) (by first | omega | (have := HN.out; omega)))
        clear hmc HPB hs1 hs2
        go_wp2_with fail
        go_roundw
        case rel => exact ⟨k + 1, _, by omega, by go_num, rfl, HPC.out⟩
        case measure => simp [intOf]; omega
      by_cases k4 : dk = 4
      · subst k4
        go_wp2_with fail
        rw [← hwv, ← hv]
        clear hwv hv h0 h1 h2 h3
        refine (live_crash HPV.out.live di dn).mono ?_
        rintro e wx ⟨Sx, rfl, hlx, htx⟩
        have HPX := hid (HPV.out.left hlx htx)
        have hc1 : wx.cell? ⟨v, 1, none⟩ = some (.int .i64 di) := HPX.out.var.is rfl
        have hc2 : wx.cell? ⟨v, 2, none⟩ = some (.int .i64 dn) := HPX.out.var.is rfl
        clear hlx htx HPV hc0 hc3
        go_wp2_with fail
        refine (rcrash_any wx _ q _ _ HPX.out.ref (by have := HN.out; omega) di dn).mono ?_
        rintro e wy ⟨rfl, hry, hmy⟩
        have HPL := hid (HPX.out.same hry hmy (fun _ h => h))
        clear hry hmy HPX hc1 hc2
        have hv1 : wy.cell? ⟨v, 1, none⟩ = some (.int .i64 di) := HPL.out.var.is rfl
        obtain ⟨l, e0, hre⟩ : ∃ l e0, (st.crash di dn).read di = (l, e0) := ⟨_, _, rfl⟩
        have HRE := hid hre
        clear hre
        go_wp2_with fail
        have hrd := live_read HPL.out.live di
        rw [HRE.out] at hrd
        refine hrd.mono ?_
        rintro e wa ⟨aa, rfl, hta, _, _, hma⟩
        have HPA := hid (HPL.out.step hma)
        have HTA := hid hta.rd
        have hv1 : wa.cell? ⟨v, 1, none⟩ = some (.int .i64 di) := HPA.out.var.is rfl
        clear hta hma HPL hrd
        go_wp2_with fail
        have hrr := rread_any wa _ q _ _ HPA.out.ref di
        rw [HRE.out] at hrr
        refine hrr.mono ?_
        rintro e wb ⟨ab, rfl, htb, hmb⟩
        have HPB := hid (HPA.out.step hmb)
        have hs1 := str_rd (hmb.rd HTA.out (fun _ _ h => h)) l.length l.length rfl
        have hs2 := str_rd htb l.length l.length rfl
        clear htb hmb HPA HTA hrr hv1
        unfold Str at hs1 hs2
        go_wp2_with fail
        refine (same_any wb _ _ _ q _ _ HPB.out.live.1 HPB.out.ref).mono ?_
        rintro e wc ⟨rfl, hmc⟩
        have HPC := hid ((HPB.out.step hmc).rel (k := k + 1) (by first | omega | (have := HN.out; omega)))
        clear hmc HPB hs1 hs2
        go_wp2_with fail
        go_roundw
        case rel => exact ⟨k + 1, _, by omega, by go_num, rfl, HPC.out⟩
        case measure => simp [intOf]; omega
      by_cases k6 : dk = 6
      · subst k6
        go_wp2_with fail
        rw [← hwv, ← hv]
        clear hwv hv h0 h1 h2 h3
        have HRM := hid (show st.waits.length < 3000000000000 by have := waits_le HPV.out.ref; have := HN.out; omega)
        refine (dclone_any wv S p st HPV.out.live.1 HRM.out).mono ?_
        rintro e wx ⟨px, Sx, rfl, hdx, hmx, hnx⟩
        obtain ⟨y1, y2, y3, y4⟩ := HPV.out.clone hdx hmx hnx
        have HPX := hid y1
        have HLX := hid y2
        have HFX := hid (And.intro y3 (And.intro y4 HPV.out.vS))
        clear hdx hmx hnx y1 y2 y3 y4 HPV hc0 hc1 hc2 hc3
        go_wp2_with fail
        have hmg : Mod None wx (wx.alloc (.cells #[.int .u8 103, .int .u8 111, .int .u8 110, .int .u8 101] 5 (4, 5))) := (Mod.refl None _).alloc _
        have HPG := hid (HPX.out.step hmg)
        have HLG := hid (HLX.out.step hmg)
        clear hmg HPX HLX
        refine (live_write HLG.out 0 _ _ _ [103, 111, 110, 101] rfl (rd_lit _ _ _ rfl _ _ rfl) (by decide) HRM.out).mono ?_
        rintro e wy ⟨Sy, rfl, hly, hty⟩
        obtain ⟨z1, z2, z3, z4⟩ := HPG.out.old hty HFX.out.1 HFX.out.2.1 HFX.out.2.2 HLG.out.2.2
        have HPY := hid z1
        have HLY := hid hly
        have HFY := hid (And.intro z2 (And.intro z3 z4))
        clear z1 z2 z3 z4 hly hty HPG HLG HFX
        go_wp2_with fail
        refine (live_flush HLY.out).mono ?_
        rintro e wz ⟨Sz, rfl, hlz, htz⟩
        obtain ⟨z1, _, _, _⟩ := HPY.out.old htz HFY.out.1 HFY.out.2.1 HFY.out.2.2 HLY.out.2.2
        have HPL := hid z1
        clear z1 hlz htz HPY HLY HFY
        have hv1 : wz.cell? ⟨v, 1, none⟩ = some (.int .i64 di) := HPL.out.var.is rfl
        obtain ⟨l, e0, hre⟩ : ∃ l e0, (st).read di = (l, e0) := ⟨_, _, rfl⟩
        have HRE := hid hre
        clear hre
        go_wp2_with fail
        have hrd := live_read HPL.out.live di
        rw [HRE.out] at hrd
        refine hrd.mono ?_
        rintro e wa ⟨aa, rfl, hta, _, _, hma⟩
        have HPA := hid (HPL.out.step hma)
        have HTA := hid hta.rd
        have hv1 : wa.cell? ⟨v, 1, none⟩ = some (.int .i64 di) := HPA.out.var.is rfl
        clear hta hma HPL hrd
        go_wp2_with fail
        have hrr := rread_any wa _ q _ _ HPA.out.ref di
        rw [HRE.out] at hrr
        refine hrr.mono ?_
        rintro e wb ⟨ab, rfl, htb, hmb⟩
        have HPB := hid (HPA.out.step hmb)
        have hs1 := str_rd (hmb.rd HTA.out (fun _ _ h => h)) l.length l.length rfl
        have hs2 := str_rd htb l.length l.length rfl
        clear htb hmb HPA HTA hrr hv1
        unfold Str at hs1 hs2
        go_wp2_with fail
        refine (same_any wb _ _ _ q _ _ HPB.out.live.1 HPB.out.ref).mono ?_
        rintro e wc ⟨rfl, hmc⟩
        have HPC := hid ((HPB.out.step hmc).rel (k := k + 1) (by first | omega | (have := HN.out; omega)))
        clear hmc HPB hs1 hs2
        go_wp2_with fail
        go_roundw
        case rel => exact ⟨k + 1, _, by omega, by go_num, rfl, HPC.out⟩
        case measure => simp [intOf]; omega
      · go_wp2_with fail
        rw [← hwv, ← hv]
        clear hwv hv h0 h1 h2 h3 k1 k2 k3 k4 k6
        have HPL := HPV
        clear HPV hc0 hc1 hc2 hc3
        have hv1 : wv.cell? ⟨v, 1, none⟩ = some (.int .i64 di) := HPL.out.var.is rfl
        obtain ⟨l, e0, hre⟩ : ∃ l e0, (st).read di = (l, e0) := ⟨_, _, rfl⟩
        have HRE := hid hre
        clear hre
        skip
        have hrd := live_read HPL.out.live di
        rw [HRE.out] at hrd
        refine hrd.mono ?_
        rintro e wa ⟨aa, rfl, hta, _, _, hma⟩
        have HPA := hid (HPL.out.step hma)
        have HTA := hid hta.rd
        have hv1 : wa.cell? ⟨v, 1, none⟩ = some (.int .i64 di) := HPA.out.var.is rfl
        clear hta hma HPL hrd
        go_wp2_with fail
        have hrr := rread_any wa _ q _ _ HPA.out.ref di
        rw [HRE.out] at hrr
        refine hrr.mono ?_
        rintro e wb ⟨ab, rfl, htb, hmb⟩
        have HPB := hid (HPA.out.step hmb)
        have hs1 := str_rd (hmb.rd HTA.out (fun _ _ h => h)) l.length l.length rfl
        have hs2 := str_rd htb l.length l.length rfl
        clear htb hmb HPA HTA hrr hv1
        unfold Str at hs1 hs2
        go_wp2_with fail
        refine (same_any wb _ _ _ q _ _ HPB.out.live.1 HPB.out.ref).mono ?_
        rintro e wc ⟨rfl, hmc⟩
        have HPC := hid ((HPB.out.step hmc).rel (k := k + 1) (by first | omega | (have := HN.out; omega)))
        clear hmc HPB hs1 hs2
        go_wp2_with fail
        go_roundw
        case rel => exact ⟨k + 1, _, by omega, by go_num, rfl, HPC.out⟩
        case measure => simp [intOf]; omega
    · obtain rfl : k = l1.length := by omega
      have HM := hid b1.2.1
      clear b1 b2 b3 b4 hr
      go_wp2_with fail
      go_ret
      exact ⟨rfl, HM.out.below _ (Nat.le_refl _) (fun _ h => h.elim)⟩
end Go.Proofs.Ytdhhpnfdnoaihaa

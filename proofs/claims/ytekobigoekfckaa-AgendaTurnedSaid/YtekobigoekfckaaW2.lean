/- AgendaTurned, walked. -/
import Derived.Test.YtekobigoekfckaaT4
namespace Go.Proofs.Ytekobigoekfckaa
open Go.RowKit

theorem AgS.srt {w : World} {S : Nat → Prop} {p : Nat} {s : List Ent} (h : AgS w S p s) : s.Pairwise le := by
  obtain ⟨l, _, _, _, hs⟩ := h; exact hs
theorem u64_rem (z : Int) (n : Nat) (hn : 0 < n) (hn2 : n ≤ 1000000) : ∃ u y : Nat, IntKind.u64.wrap z = (u : Int) ∧ IntKind.u64.wrap (n : Int) = (n : Int) ∧ (u : Int).tmod (n : Int) = (y : Int) ∧ y < n ∧ IntKind.u64.wrap (y : Int) = (y : Int) ∧ IntKind.i64.wrap (y : Int) = (y : Int) := by
  have h0 : 0 ≤ IntKind.u64.wrap z := by simp [IntKind.wrap, IntKind.bits, IntKind.signed]; omega
  refine ⟨(IntKind.u64.wrap z).toNat, (IntKind.u64.wrap z).toNat % n, by omega, ?_, ?_, Nat.mod_lt _ hn, ?_, ?_⟩
  · simp [IntKind.wrap, IntKind.bits, IntKind.signed]; omega
  · rw [Int.tmod_eq_emod_of_nonneg (by omega)]; omega
  · have := Nat.mod_lt (IntKind.u64.wrap z).toNat hn
    generalize (IntKind.u64.wrap z).toNat % n = y at *
    simp [IntKind.wrap, IntKind.bits, IntKind.signed]; omega
  · have := Nat.mod_lt (IntKind.u64.wrap z).toNat hn
    generalize (IntKind.u64.wrap z).toNat % n = y at *
    simp [IntKind.wrap, IntKind.bits, IntKind.signed]; omega
/-- what the swap leaves -/
theorem swap_quad {w wr w2 : World} {Sa : Nat → Prop} {pa : Nat} {sa : List Ent} {Sb : Nat → Prop} {pb : Nat} {sb s o : List Ent} {v : Value} {g c : Nat} {rest : List Value} (h : Quad w wr Sa pa sa Sb pb sb s v o (.slice (some ⟨g, 0, none⟩) o.length c))
    (h1 : o.length ≤ c) (h2 : c ≤ maxLen) (hb : Blk wr g 29 (entC o ++ rest)) (h3 : (entC o ++ rest).length = c * 2) (x y : Nat) (hx : x < o.length) (hy : y < o.length) (hw : (SwapW wr g x y (fn o x) (fn o y)).drew = w2) :
    Quad w w2 Sa pa sa Sb pb sb s v (swl o x y) (.slice (some ⟨g, 0, none⟩) o.length c) := by
  have hb2 : Blk w2 g 29 (entC (swl o x y) ++ rest) := by rw [← hw]; exact (swapW_blk29 hb x y hx hy).drew
  have hm := swapW_mod wr g x y (fn o x) (fn o y)
  rw [hw] at hm
  exact h.write (hm.mono (fun k _ e => by subst e; rfl)) (owns_swap h1 h2 h3 x y hb2)
set_option maxRecDepth 100000 in
set_option maxHeartbeats 12800000 in
theorem AgendaTurned_walk (w : World) (v0 : Value) (l : List Ent) (w0 : VEnts w v0 l) (v1' : Value) (q : List Int) (w1' : VInts w v1' q) : Calls Try.prog 3 #[v0, v1'] w (Walk w) := by
  obtain ⟨a, c, rfl, _, hr, hbig⟩ := w0
  obtain ⟨qa, qc, rfl, hqlen, hqs⟩ := w1'
  have HR := hid hr
  have HB := hid hbig
  have HQS := hid hqs
  have HN := hid (live_new w w (Mod.refl _ _))
  unfold LNew Ptr at HN
  clear hr hbig hqs
  go_enter Try.func3, Try.ntmps3
  go_wp2_with fail
  refine HN.out.mono ?_
  rintro e wa ⟨p1, S1, rfl, h1, _, _⟩
  have HN2 := hid (live_new w wa h1.mod)
  have HL1 := hid h1
  unfold LNew Ptr at HN2
  clear HN h1
  go_wp2_with fail
  refine HN2.out.mono ?_
  rintro e wb ⟨p2, S2, rfl, h2, hmb, hnew⟩
  have HA := hid (awake_any wb)
  have HL := hid h2
  have HLA := hid (HL1.out.step hmb)
  have HAB := hid (fun k (h : S1 k) (h' : S2 k) => show False by have := HL1.out.ag.lt k h; have := hnew k h'; omega)
  clear HN2 h2 hmb hnew HL1
  by_cases hl : l.length ≤ 300
  · have hl' : ¬ (300 : Int) < (l.length : Int) := by omega
    go_wp2_with fail
    refine HA.out.mono ?_
    rintro e w2 ⟨rfl, hm⟩
    have HB0 := hid (show Trio w w2 S1 p1 [] S2 p2 [] [] (.slice none 0 0) from ⟨HLA.out.step hm, HL.out.step hm, (RefRel.start w2).from (HL.out.mod.trans hm), HAB.out, fun g hg => (by cases hg), fun g hg => (by cases hg)⟩)
    clear hm HA HL HLA HAB
    go_wp2_with fail
    go_loopw [7, 8] (fun o i wr => ∃ (k : Nat) (S1 : Nat → Prop) (oa : Option Addr) (on oc : Nat), k ≤ l.length ∧ i = .int .i64 k ∧ o = .slice oa on oc ∧ Hid (Trio w wr S1 p1 (build (l.take k)) S2 p2 [] (build (l.take k)) (.slice oa on oc))) (fun _ i _ => l.length - (intOf i).toNat)
    case atStart => exact ⟨0, S1, none, 0, 0, by omega, rfl, rfl, HB0.out⟩
    case round =>
      obtain ⟨k, S1, oa, on, oc, hk, rfl, rfl, hrel⟩ := hrel
      clear HB0
      by_cases hlt : k < l.length
      · have hlt' : (k : Int) < (l.length : Int) := by omega
        obtain ⟨b, o, rfl, c1, c2⟩ := rd_ent (hrel.out.a.mod.rdv HR.out (fun _ _ h => h)) hlt
        have HBX := hid (HB.out _ (fn_mem hlt))
        have HS := hid (show build (l.take (k + 1)) = putL (build (l.take k)) (fn l k) by rw [fn_take_succ l k hlt, build_snoc])
        have HLE := hid (show (build (l.take k)).length ≤ 300 by have := build_len (l.take k); rw [List.length_take] at this; omega)
        generalize fn l k = x at *
        have HP := hid (refput_any wr oa oc on (build (l.take k)) hrel.out.one.rdv.2 hrel.out.one.rdv.1 x (by have := HLE.out; omega))
        unfold V at HP
        go_wp2_with fail
        refine HP.out.mono ?_
        rintro e w3 ⟨oa2, oc2, rfl, h3⟩
        have HT3 := hid ((hrel.out.putOne h3).same (Mod.refl None w3).drew)
        have d1 := h3.mod.cell0 c1
        have d2 := h3.mod.cell0 c2
        have HPut := hid (live_put HT3.out.a x HBX.out (by have := HLE.out; omega))
        unfold Ptr at HPut
        clear c1 c2 h3 HP hrel
        go_wp2_with fail
        refine wp_region_still_tail 11 (by kernel_rfl) (by kernel_rfl) ?_
        change wpStill _ _ (World.drew _) (fun a' => wpList _ _ _ _ a' (World.drew _)) _ _
        simp only [List.take_succ_cons, List.take_zero, List.drop_succ_cons, List.drop_zero]
        repeat still_step
        refine wpStill_nil ?_
        go_wp2_with fail
        refine HPut.out.mono ?_
        rintro e w4 ⟨S4, rfl, h4, ht4⟩
        have HB4 := hid (HT3.out.turnA h4 ht4)
        clear h4 ht4 HPut HT3 d1 d2
        go_wp2_with fail
        go_roundw
        case rel => exact ⟨k + 1, S4, oa2, _, oc2, by omega, by go_num, rfl, by show Trio _ _ _ _ _ _ _ _ _ _; rw [HS.out]; exact HB4.out⟩
        case measure => simp [intOf]; omega
      · obtain rfl : k = l.length := by omega
        rw [List.take_length] at hrel
        have HSL := hid (show (build l).length ≤ 300 by have := build_len l; omega)
        have HBO := hid (fun (o : List Ent) (ho : o.Perm (build l)) (e : Ent) (he : e ∈ o) => hrel.out.a.ag.big e (ho.mem_iff.1 he))
        generalize build l = s at *
        have hon := hrel.out.one.rdv.2
        have HSN := hid hon
        have hsl := HSL.out
        rw [← hon] at hsl
        clear hon
        go_wp2_with (at_builtin; first
          | (refine wpList_plain rfl (fun K hK => wp_copy_e (.tmp 56) (.tmp 57) rfl hrel.out.one rfl rfl (by have := HSL.out; omega) (fun va vc w' h2 => hK _ _ ?_)); have HR3 := hid h2.out; clear h2))
        have HQ := hid (hrel.out.copy HR3.out)
        clear HR3 hrel
        obtain ⟨v1, hv1⟩ : ∃ v, v = Value.slice oa on oc := ⟨_, rfl⟩
        obtain ⟨vx, hvx⟩ : ∃ v, v = Value.slice va on vc := ⟨_, rfl⟩
        have HV1 := hid hv1
        have HVX := hid hvx
        rw [← hv1, ← hvx] at HQ
        obtain ⟨n, hn⟩ : ∃ n, n = on := ⟨_, rfl⟩
        have HQ0 := hid (show ∃ o : List Ent, o.Perm s ∧ o.length = n ∧ Quad w _ S1 p1 s S2 p2 [] s v1 o vx from ⟨s, List.Perm.refl _, by rw [hn, HSN.out], HQ.out⟩)
        clear HQ hv1 hvx
        go_loopw [10] (fun i wr => ∃ (k : Nat), k ≤ 300 ∧ i = .int .i64 k ∧ Hid (∃ o : List Ent, o.Perm s ∧ o.length = n ∧ Quad w wr S1 p1 s S2 p2 [] s v1 o vx)) (fun i _ => 300 - (intOf i).toNat)
        case atStart => exact ⟨0, by omega, rfl, HQ0.out⟩
        case round =>
          obtain ⟨k, hk, rfl, hrel⟩ := hrel
          clear HQ0
          subst hn
          by_cases hgo : k < q.length ∧ k < 300 ∧ 0 < n
          · obtain ⟨g1, g2, g3⟩ := hgo
            have g1' : (k : Int) < (q.length : Int) := by omega
            have g2' : (k : Int) < 300 := by omega
            have g3' : (0 : Int) < (n : Int) := by omega
            obtain ⟨o, hop, hon, hq⟩ := hrel.out
            have hvx := HVX.out
            subst hvx
            obtain ⟨g, rest, rfl, j0, j1, j2, hb, j3⟩ := hq.row.open1 (by omega)
            clear j0
            obtain ⟨qb, qo, rfl, z1, hz64⟩ := VInts.at HQS.out hq.trio.a.mod g1
            generalize q[k] = z at *
            obtain ⟨u, y, u1, u2, u3, hy, u4, u5⟩ := u64_rem z n g3 (by omega)
            obtain ⟨x, hx1⟩ : ∃ x, x = k % n := ⟨_, rfl⟩
            have hx : x < n := by rw [hx1]; exact Nat.mod_lt _ g3
            have hxr : (k : Int).tmod (n : Int) = (x : Int) := by rw [Int.tmod_eq_emod_of_nonneg (by omega), hx1]; omega
            have hn0 : ((n : Int) == 0) = false := by simp; omega
            have hxl' : (x : Int) < (n : Int) := by omega
            have hyl' : (y : Int) < (n : Int) := by omega
            have HPE := hid (swl_perm o x y (by omega) (by omega))
            have HSWL := hid (swl_len o x y)
            have HSQ := hid (fun w2 hw => swap_quad (w2 := w2) (hon ▸ hq) j1 j2 hb j3 x y (by omega) (by omega) hw)
            have hel := entC_length o
            obtain ⟨a1, a2⟩ := entC_at o x (by omega)
            obtain ⟨a3, a4⟩ := entC_at o y (by omega)
            have at0 : ∀ i v, (entC o)[i]? = some v → wr.cell? ⟨g, i, none⟩ = some v := fun i v h => by
              rw [hb.cell, List.getElem?_append_left (List.getElem?_eq_some_iff.1 h).1]; exact h
            have c1 := at0 _ _ a1
            have c2 := at0 _ _ a2
            have c3 := at0 _ _ a3
            have c4 := at0 _ _ a4
            have f1 := hb.free (x * 2)
            have f2 := hb.free (x * 2 + 1)
            have f3 := hb.free (y * 2)
            have f4 := hb.free (y * 2 + 1)
            obtain ⟨r1, e1⟩ : ∃ u, (wr.setCell ⟨g, x * 2, none⟩ (.int .i64 (fn o y).1)).cell? ⟨g, y * 2, none⟩ = some u := ⟨_, (hb.set _ _).cellAt _ (by rw [List.length_set, List.length_append]; omega)⟩
            obtain ⟨r2, e2⟩ : ∃ u, ((wr.setCell ⟨g, x * 2, none⟩ (.int .i64 (fn o y).1)).setCell ⟨g, x * 2 + 1, none⟩ (.int .i64 (fn o y).2)).cell? ⟨g, y * 2 + 1, none⟩ = some u := ⟨_, ((hb.set _ _).set _ _).cellAt _ (by rw [List.length_set, List.length_set, List.length_append]; omega)⟩
            have HOP := hid hop
            have HON := hid hon
            clear at0 a1 a2 a3 a4 hq hb hrel hop j1 j2 j3 hel hx1 hon
            generalize fn o x = ex at *
            generalize fn o y = ey at *
            go_wp2_with fail
            go_region
            generalize hw1 : (World.setCell _ _ _).drew = w1
            have HQ1 := hid (HSQ.out w1 hw1)
            clear hw1 HSQ e1 e2 c1 c2 c3 c4 f1 f2 f3 f4 z1
            go_wp2_with fail
            go_roundw
            case rel => exact ⟨k + 1, by omega, by go_num, swl o x y, HPE.out.trans HOP.out, by rw [HSWL.out]; exact HON.out, by have := HQ1.out; rw [HON.out] at this; exact this⟩
            case measure => simp [intOf]; omega
          · have HQE := hid hrel.out
            have hcases : (¬ (k : Int) < (q.length : Int)) ∨ ((k : Int) < (q.length : Int) ∧ ¬ (k : Int) < 300) ∨ ((k : Int) < (q.length : Int) ∧ (k : Int) < 300 ∧ ¬ (0 : Int) < (n : Int)) := by omega
            have hvx := HVX.out
            subst hvx
            have hv1 := HV1.out
            subst hv1
            generalize hvx2 : Value.slice va n vc = vx at HQE
            generalize hv2 : Value.slice oa n oc = v1 at HQE
            clear hrel hgo
            rcases hcases with h1 | ⟨h1, h2⟩ | ⟨h1, h2, h3⟩
            all_goals
              subst hvx2
              subst hv2
              have HO := hid (show ∃ o : List Ent, o.Perm s ∧ o.length = n ∧ Quad w wr S1 p1 s S2 p2 (build (o.take 0)) s (.slice oa n oc) o (.slice va n vc) from HQE.out)
              obtain ⟨o, hop, hon, hq⟩ := HO.out
              have HOP := hid hop
              have HQ0 := hid hq
              have HON := hid hon
              clear hop hon hq HO HQE
              go_wp2_with fail
              go_loopw [13] (fun i wr => ∃ (k : Nat) (S2 : Nat → Prop), k ≤ n ∧ i = .int .i64 k ∧ Hid (Quad w wr S1 p1 s S2 p2 (build (o.take k)) s (.slice oa n oc) o (.slice va n vc))) (fun i _ => n - (intOf i).toNat)
              case atStart => exact ⟨0, S2, by omega, rfl, HQ0.out⟩
              case round =>
                obtain ⟨k, S2, hk, rfl, hrel⟩ := hrel
                clear HQ0
                by_cases hlt : k < n
                · have hlt' : (k : Int) < (n : Int) := by omega
                  have hlo : k < o.length := by have := HON.out; omega
                  have hrd := hrel.out.row.rdv.1
                  obtain ⟨b, oo, rfl, c1, c2⟩ := rd_ent hrd hlo
                  have HBX := hid (HBO.out o HOP.out _ (fn_mem hlo))
                  have HS := hid (show build (o.take (k + 1)) = putL (build (o.take k)) (fn o k) by rw [fn_take_succ o k hlo, build_snoc])
                  have HLE := hid (show (build (o.take k)).length ≤ 300 by have := build_len (o.take k); rw [List.length_take] at this; have := HSL.out; have := HOP.out.length_eq; omega)
                  generalize fn o k = x at *
                  have HPut := hid (live_put hrel.out.trio.b.drew x HBX.out (by have := HLE.out; omega))
                  unfold Ptr at HPut
                  clear hrd hlo
                  go_wp2_with fail
                  refine wp_region_still_tail 11 (by kernel_rfl) (by kernel_rfl) ?_
                  change wpStill _ _ (World.drew _) (fun a' => wpList _ _ _ _ a' (World.drew _)) _ _
                  simp only [List.take_succ_cons, List.take_zero, List.drop_succ_cons, List.drop_zero]
                  repeat still_step
                  refine wpStill_nil ?_
                  go_wp2_with fail
                  refine HPut.out.mono ?_
                  rintro e w4 ⟨S4, rfl, h4, ht4⟩
                  have HB4 := hid ((hrel.out.same (Mod.refl None wr).drew).turnB h4 ht4)
                  clear h4 ht4 HPut c1 c2 hrel
                  go_wp2_with fail
                  go_roundw
                  case rel => exact ⟨k + 1, S4, by omega, by go_num, by show Quad _ _ _ _ _ _ _ _ _ _ _ _; rw [HS.out]; exact HB4.out⟩
                  case measure => simp [intOf]; omega
                · obtain rfl : k = n := by omega
                  rw [show o.take k = o by rw [← HON.out]; exact List.take_length] at hrel
                  have HBE := hid (build_eq HOP.out hrel.out.trio.a.ag.srt hrel.out.trio.a.ag.unlike)
                  rw [HBE.out] at hrel
                  have HS1 := hid (same_any w _ S1 p1 s hrel.out.trio.a oa oc k hrel.out.trio.one.rdv.2 hrel.out.trio.one.rdv.1 (by have := HSL.out; omega))
                  unfold Ptr at HS1
                  go_wp2_with fail
                  refine HS1.out.mono ?_
                  rintro e w5 ⟨rfl, _, hm5⟩
                  have h5 := hrel.out.same hm5
                  have HS2 := hid (same_any w _ S2 p2 s h5.trio.b oa oc k h5.trio.one.rdv.2 h5.trio.one.rdv.1 (by have := HSL.out; omega))
                  unfold Ptr at HS2
                  clear hm5 h5 hrel HS1
                  go_wp2_with fail
                  refine HS2.out.mono ?_
                  rintro e w6 ⟨rfl, h6, _⟩
                  have HE := hid (walk_of h6.mod)
                  clear h6 HS2
                  go_wp2_with fail
                  go_ret
                  exact HE.out
  · have hl' : (300 : Int) < (l.length : Int) := by omega
    have HA2 := hid (fun w => awake_any w)
    go_wp2_with fail
    refine HA.out.mono ?_
    rintro e w2 ⟨rfl, hm⟩
    go_wp2_with fail
    refine (HA2.out w2).mono ?_
    rintro e w3 ⟨rfl, hm3⟩
    have HE := hid (walk_of ((HL.out.mod.trans hm).trans hm3))
    clear hm hm3 HL
    go_wp2_with fail
    go_ret
    exact HE.out
end Go.Proofs.Ytekobigoekfckaa

/- AgendaPlays, walked. -/
import Derived.StillTactics
import Derived.Test.YtekobigoekfckaaT4
namespace Go.Proofs.Ytekobigoekfckaa
open Go.RowKit

section
variable {P : Program} {ops : Array Oper} {w : World} {Q : Act → Prop} {o : Oper} {rest : List Oper} {a : Act}
theorem still_skip {WS : List Oper → Act → Prop} (hWS : wpStill P ops w Q = WS) (hw : Region.wanted o (yielded ops a.tmps) = false) (h : WS rest (a.put o.dst undef)) : WS (o :: rest) a := by
  subst hWS
  exact wpStill_step (fun K hK => by rw [hw]; exact hK _ h)
theorem still_val {WS : List Oper → Act → Prop} (hWS : wpStill P ops w Q = WS) {v : Value} (hw : Region.wanted o (yielded ops a.tmps) = true) (hr : (execOp a.eval o).run P w = .ok (.value v) w) (h : WS rest (a.put o.dst v)) : WS (o :: rest) a := by
  subst hWS
  exact wpStill_step (fun K hK => by rw [hw, if_pos rfl]; unfold Oper.still; rw [hr, Oper.stillUpon_value]; exact hK _ h)
theorem still_end {WS : List Oper → Act → Prop} (hWS : wpStill P ops w Q = WS) (h : Q a) : WS [] a := by
  subst hWS; exact h
end
/-- the agenda and what is read of the document's list -/
structure Play (w wr : World) (S : Nat → Prop) (p : Nat) (s : List Ent) (a : Option Addr) : Prop where
  live : Live w wr S p s
  rd : RdV wr a (entC s)
  off : s = [] ∨ ∃ b o, a = some ⟨b, o, none⟩ ∧ ¬ S b
theorem Play.same {w wr w2 : World} {S : Nat → Prop} {p : Nat} {s : List Ent} {a : Option Addr} (h : Play w wr S p s a) (hm : Mod None wr w2) : Play w w2 S p s a :=
  ⟨h.live.step hm, hm.rdv h.rd (fun _ _ h => h), h.off⟩
/-- what is read stays over the agenda's turn -/
theorem Play.kept {w wr w2 : World} {S S' : Nat → Prop} {p : Nat} {s : List Ent} {a : Option Addr} (h : Play w wr S p s a) (t : Turn S S' wr w2) : RdV w2 a (entC s) ∧ (s = [] ∨ ∃ b o, a = some ⟨b, o, none⟩ ∧ ¬ S' b) := by
  rcases h.off with h0 | ⟨b, o, rfl, hb⟩
  · subst h0; exact ⟨.inl rfl, .inl rfl⟩
  · by_cases h0 : s = []
    · subst h0; exact ⟨.inl rfl, .inl rfl⟩
    · have hne : entC s ≠ [] := fun e => by
        have := entC_length s; rw [e] at this; simp at this; exact h0 (List.eq_nil_of_length_eq_zero (by omega))
      exact ⟨t.mod.rdv h.rd (fun x e => by cases e; exact hb), .inr ⟨b, o, rfl, fun h' => hb (t.old b (h.rd.lt hne) h')⟩⟩
/-- a new row of the document's -/
theorem Play.of {w wr w2 : World} {S : Nat → Prop} {p : Nat} {s : List Ent} {a : Option Addr} {n c : Nat} (hl : Live w wr S p s) (h2 : RefRel s wr w2 (.slice a n c)) : Play w w2 S p s a := by
  refine ⟨hl.step h2.mod, h2.rdv.1, ?_⟩
  by_cases h0 : s = []
  · exact .inl h0
  · obtain ⟨g, rest, rfl, _, _, _, hb, _⟩ := h2.open1 (by rcases s with _ | ⟨x, s⟩; exact absurd rfl h0; simp)
    exact .inr ⟨g, 0, rfl, fun hS => by have := hl.ag.lt g hS; have := h2.new g rfl; omega⟩
theorem Play.tail {w wr : World} {S : Nat → Prop} {p : Nat} {x : Ent} {s : List Ent} {b o : Nat} (hl : Live w wr S p s) (hr : RdV wr (some ⟨b, o, none⟩) (entC (x :: s))) (ho : ¬ S b) : Play w wr S p s (some ⟨b, o + 2, none⟩) := by
  refine ⟨hl, ?_, .inr ⟨b, o + 2, rfl, ho⟩⟩
  rcases hr with h | ⟨b', o', e, hc⟩
  · have := entC_length (x :: s); rw [h] at this; simp at this
  · obtain ⟨rfl, rfl⟩ : b = b' ∧ o = o' := by simpa using e
    have he : entC (x :: s) = .int .i64 x.1 :: .int .i64 x.2 :: entC s := rfl
    refine .inr ⟨b, o + 2, rfl, fun i hi => ?_⟩
    have := hc (i + 2) (by rw [he]; simp; omega)
    rw [he] at this
    simp only [List.getElem?_cons_succ] at this
    rw [← this]
    congr 2
    omega
theorem RefRel.cap {s : List Ent} {w wr : World} {a : Option Addr} {n c : Nat} (h : RefRel s w wr (.slice a n c)) : n ≤ c := by
  rcases h.own.2 with ⟨e, _⟩ | ⟨g, cap, cur, e, _, _, h1, _⟩
  · cases e; exact Nat.le_refl _
  · cases e; exact h1
set_option maxRecDepth 100000 in
set_option maxHeartbeats 25600000 in
theorem AgendaPlays_walk (w : World) (v0 : Value) (q : List Deed) (w0 : VDeeds w v0 q) : Calls Try.prog 5 #[v0] w (Walk w) := by
  obtain ⟨qa, qc, rfl, hqlen, hqs⟩ := w0
  have HQS := hid hqs
  have HN := hid (live_new w w (Mod.refl _ _))
  unfold LNew Ptr at HN
  clear hqs
  go_enter Try.func5, Try.ntmps5
  go_wp2_with fail
  refine HN.out.mono ?_
  rintro e w1 ⟨p, S, rfl, h1, _, _⟩
  have HA := hid (awake_any w1)
  have HL := hid h1
  clear HN h1
  by_cases hl : q.length ≤ 300
  · have hl' : ¬ (300 : Int) < (q.length : Int) := by omega
    go_wp2_with fail
    refine HA.out.mono ?_
    rintro e w2 ⟨rfl, hm⟩
    have HB0 := hid (show Play w w2 S p [] none from ⟨HL.out.step hm, .inl rfl, .inl rfl⟩)
    clear hm HA HL
    go_wp2_with fail
    go_loopw [4, 5] (fun o i wr => ∃ (k : Nat) (S : Nat → Prop) (s : List Ent) (la : Option Addr) (n c : Nat), k ≤ q.length ∧ i = .int .i64 k ∧ o = .slice la n c ∧ Hid (Play w wr S p s la ∧ n = s.length ∧ n ≤ c ∧ s.length ≤ k)) (fun _ i _ => q.length - (intOf i).toNat)
    case atStart => exact ⟨0, S, [], none, 0, 0, by omega, rfl, rfl, HB0.out, rfl, by omega, by simp⟩
    case round =>
      obtain ⟨k, S, s, la, n, c, hk, rfl, rfl, hrel⟩ := hrel
      clear HB0
      by_cases hlt : k < q.length
      · have hlt' : (k : Int) < (q.length : Int) := by omega
        obtain ⟨b, o, rfl, c1, c2, c3, i1, i2, i3⟩ := VDeeds.at HQS.out hrel.out.1.live.mod hlt
        generalize q[k] = d at *
        obtain ⟨kk, id, du⟩ := d
        simp only at c1 c2 c3 i1 i2 i3
        have HLS0 := hid (show s.length ≤ k ∧ k < 300 by have := hrel.out.2.2.2; omega)
        have HTH0 := hid (there_len s id)
        have HDr0 := hid (fun o => refdrop_any (wr.alloc o) la c n s hrel.out.2.1 (((Mod.refl None wr).alloc o).rdv hrel.out.1.rd (fun _ _ h => h)) id (by have := HLS0.out; omega))
        have HNN := hid hrel.out.2.1
        cases hth : there s id with
        | true =>
          have hcmp : ((dropL s id).length : Int) < (n : Int) := by have := HTH0.out; rw [hth] at this; have h2 := of_decide_eq_true this.symm; have := HNN.out; omega
          have HTH := hid hth
          clear hth
          by_cases hk1 : kk = 1
          · subst hk1
            go_wp2_with fail
            refine (HDr0.out _).mono ?_
            rintro e w2 ⟨da, dc, rfl, hdr⟩
            have hm2 := ((Mod.refl None wr).alloc (.cells #[.int .i64 1, .int .i64 id, .int .i64 du] 40)).trans hdr.mod
            have hq2 := hdr.mod.blk (Blk.new wr 40 #[.int .i64 1, .int .i64 id, .int .i64 du]) (fun h => h)
            have HPL2 := hid (hrel.out.1.same hm2)
            have HQ2 := hid hq2
            have HNS := hid (show ¬ S wr.heap.size from fun h => by have := hrel.out.1.live.ag.lt _ h; omega)
            have HN := hid hrel.out.2.1
            have HC := hid hrel.out.2.2.1
            have z0 := hq2.is (i := 0) rfl
            have z1 := hq2.is (i := 1) rfl
            have z2 := hq2.is (i := 2) rfl
            clear hdr hm2 hq2 hrel HDr0 c1 c2 c3
            have HPut := hid (live_put HPL2.out.live (id, du) ⟨i2, i3⟩ (by have := HLS0.out; omega))
            rw [HTH.out] at HPut
            unfold Ptr LPost at HPut
            go_wp2_with fail
            refine HPut.out.mono ?_
            rintro e w3 ⟨S3, rfl, h3, ht3⟩
            have hk3 := HPL2.out.kept ht3
            have hq3 := ht3.mod.blk HQ2.out HNS.out
            have HRP := hid (refput_any w3 la c n s HN.out hk3.1 (id, du) (by have := HLS0.out; omega))
            unfold V at HRP
            have H3 := hid h3
            clear z0 z1 z2
            have z0 := hq3.is (i := 0) rfl
            have z1 := hq3.is (i := 1) rfl
            have z2 := hq3.is (i := 2) rfl
            clear h3 ht3 hk3 hq3 HPut
            go_wp2_with fail
            refine HRP.out.mono ?_
            rintro e w4 ⟨pa, pc, rfl, hpr⟩
            have HPL := hid (Play.of H3.out hpr)
            have HCP := hid hpr.cap
            have HLS := hid (show (putL s (id, du)).length ≤ k + 1 by have := putL_len s (id, du); have := HLS0.out; omega)
            clear hpr HRP H3
            have HSM := hid (same_any w w4 S3 p (putL s (id, du)) HPL.out.live pa pc (putL s (id, du)).length (rfl) HPL.out.rd (by have := HLS.out; omega))
            unfold Ptr SamePost at HSM
            go_wp2_with fail
            refine HSM.out.mono ?_
            rintro e w9 ⟨rfl, _, hm9⟩
            have HP9 := hid (HPL.out.same hm9)
            clear hm9 HSM HPL
            go_wp2_with fail
            go_roundw
            case rel => exact ⟨k + 1, S3, (putL s (id, du)), pa, (putL s (id, du)).length, pc, by omega, by go_num, rfl, HP9.out, rfl, HCP.out, by have := HLS.out; omega⟩
            case measure => simp [intOf]; omega
          · have hk1' : (kk == 1) = false := by simpa using hk1
            by_cases hk2 : kk = 2
            · subst hk2
              go_wp2_with fail
              refine (HDr0.out _).mono ?_
              rintro e w2 ⟨da, dc, rfl, hdr⟩
              have hm2 := ((Mod.refl None wr).alloc (.cells #[.int .i64 2, .int .i64 id, .int .i64 du] 40)).trans hdr.mod
              have hq2 := hdr.mod.blk (Blk.new wr 40 #[.int .i64 2, .int .i64 id, .int .i64 du]) (fun h => h)
              have HPL2 := hid (hrel.out.1.same hm2)
              have HQ2 := hid hq2
              have HNS := hid (show ¬ S wr.heap.size from fun h => by have := hrel.out.1.live.ag.lt _ h; omega)
              have HN := hid hrel.out.2.1
              have HC := hid hrel.out.2.2.1
              have z0 := hq2.is (i := 0) rfl
              have z1 := hq2.is (i := 1) rfl
              have z2 := hq2.is (i := 2) rfl
              clear hdr hm2 hq2 hrel HDr0 c1 c2 c3
              have HDr := hid (live_drop HPL2.out.live id i2 (by have := HLS0.out; omega))
              rw [HTH.out] at HDr
              unfold Ptr LPost at HDr
              go_wp2_with fail
              refine HDr.out.mono ?_
              rintro e w3 ⟨S3, rfl, h3, ht3⟩
              have hk3 := HPL2.out.kept ht3
              have hq3 := ht3.mod.blk HQ2.out HNS.out
              have HRP := hid (refdrop_any w3 la c n s HN.out hk3.1 id (by have := HLS0.out; omega))
              have H3 := hid h3
              clear z0 z1 z2
              have z0 := hq3.is (i := 0) rfl
              have z1 := hq3.is (i := 1) rfl
              have z2 := hq3.is (i := 2) rfl
              clear h3 ht3 hk3 hq3 HDr
              go_wp2_with fail
              refine HRP.out.mono ?_
              rintro e w4 ⟨pa, pc, rfl, hpr⟩
              have HPL := hid (Play.of H3.out hpr)
              have HCP := hid hpr.cap
              have HLS := hid (show (dropL s id).length ≤ k + 1 by have := dropL_le s id; have := HLS0.out; omega)
              clear hpr HRP H3
              have HSM := hid (same_any w w4 S3 p (dropL s id) HPL.out.live pa pc (dropL s id).length (rfl) HPL.out.rd (by have := HLS.out; omega))
              unfold Ptr SamePost at HSM
              go_wp2_with fail
              refine HSM.out.mono ?_
              rintro e w9 ⟨rfl, _, hm9⟩
              have HP9 := hid (HPL.out.same hm9)
              clear hm9 HSM HPL
              go_wp2_with fail
              go_roundw
              case rel => exact ⟨k + 1, S3, (dropL s id), pa, (dropL s id).length, pc, by omega, by go_num, rfl, HP9.out, rfl, HCP.out, by have := HLS.out; omega⟩
              case measure => simp [intOf]; omega
            · have hk2' : (kk == 2) = false := by simpa using hk2
              by_cases hk3 : kk = 3
              · subst hk3
                go_wp2_with fail
                refine (HDr0.out _).mono ?_
                rintro e w2 ⟨da, dc, rfl, hdr⟩
                have hm2 := ((Mod.refl None wr).alloc (.cells #[.int .i64 3, .int .i64 id, .int .i64 du] 40)).trans hdr.mod
                have hq2 := hdr.mod.blk (Blk.new wr 40 #[.int .i64 3, .int .i64 id, .int .i64 du]) (fun h => h)
                have HPL2 := hid (hrel.out.1.same hm2)
                have HQ2 := hid hq2
                have HNS := hid (show ¬ S wr.heap.size from fun h => by have := hrel.out.1.live.ag.lt _ h; omega)
                have HN := hid hrel.out.2.1
                have HC := hid hrel.out.2.2.1
                have z0 := hq2.is (i := 0) rfl
                have z1 := hq2.is (i := 1) rfl
                have z2 := hq2.is (i := 2) rfl
                clear hdr hm2 hq2 hrel HDr0 c1 c2 c3
                cases s with
                | nil =>
                  exact absurd HTH.out (by simp [there])
                | cons x s =>
                  by_cases hx : x.2 ≤ du
                  · have HT := hid trivial
                    obtain ⟨b2, o2, rfl, y1, y2⟩ := rd_ent HPL2.out.rd (k := 0) (by simp)
                    have e0 : fn (x :: s) 0 = x := rfl
                    rw [e0, Nat.zero_mul, Nat.add_zero] at y1 y2
                    clear e0 y1 y2
                    have hnp : (0 : Int) < (n : Int) := by have := HN.out; rw [List.length_cons] at this; omega
                    have hnp2 : 0 < n := by omega
                    have hdue : decide (x.2 ≤ du) = true := decide_eq_true hx
                    have hne1 : (x.1 != x.1) = false := by simp
                    have hne2 : (x.2 != x.2) = false := by simp
                    have HTK := hid (live_take HPL2.out.live du (by have := HLS0.out; omega))
                    rw [show takeL (x :: s) du = ((x, true), s) by simp [takeL, hx]] at HTK
                    unfold Ptr LPost V at HTK
                    go_wp2_with fail
                    refine HTK.out.mono ?_
                    rintro e w3 ⟨S3, rfl, h3, ht3⟩
                    clear hcmp hk1 hk1' hk2 hk2'
                    have hk3 := HPL2.out.kept ht3
                    have hq3 := ht3.mod.blk HQ2.out HNS.out
                    clear z0 z1 z2
                    have z0 := hq3.is (i := 0) rfl
                    have z1 := hq3.is (i := 1) rfl
                    have z2 := hq3.is (i := 2) rfl
                    have hql := hq3.lt
                    obtain ⟨b3, o3, he, y1, y2⟩ := rd_ent hk3.1 (k := 0) (by simp)
                    obtain ⟨rfl, rfl⟩ : b2 = b3 ∧ o2 = o3 := by simpa using he
                    have e0 : fn (x :: s) 0 = x := rfl
                    rw [e0, Nat.zero_mul, Nat.add_zero] at y1 y2
                    clear e0 he
                    have hbl := World.block_lt_of_cell? w3 _ y1
                    have hb3 : ¬ S3 b2 := by
                      rcases hk3.2 with h | ⟨b4, o4, h, h4⟩
                      · cases h
                      · obtain ⟨rfl, rfl⟩ : b2 = b4 ∧ o2 = o4 := by simpa using h
                        exact h4
                    obtain ⟨n1, hn1⟩ : ∃ n1, n = n1 + 1 := ⟨n - 1, by omega⟩
                    obtain ⟨d1, hd1⟩ : ∃ d1, c = d1 + 1 := ⟨c - 1, by have := HC.out; omega⟩
                    have hn2 : n1 = s.length := by have := HN.out; rw [List.length_cons] at this; omega
                    have hnc : n1 ≤ d1 := by have := HC.out; omega
                    have HN2 := hid hn2
                    have HNC := hid hnc
                    have HLS := hid (show s.length ≤ k + 1 ∧ k < 300 by have := HLS0.out; rw [List.length_cons] at this; omega)
                    by_cases hd0 : d1 = 0
                    · have hs0 : s = [] := List.eq_nil_of_length_eq_zero (by omega)
                      subst hs0
                      subst hd0
                      obtain rfl : n1 = 0 := by omega
                      have HPL := hid (⟨h3, .inl rfl, .inl rfl⟩ : Play w w3 S3 p [] (some ⟨b2, o2, none⟩))
                      have HSM := hid (fun w' (hm : Mod None w3 w') => (same_any w w' S3 p [] (HPL.out.same hm).live (some ⟨b2, o2, none⟩) 0 0 (rfl) (HPL.out.same hm).rd (by have := HLS.out; omega)).mono (fun e w9 h => (⟨h.1, (HPL.out.same hm).same h.2.2⟩ : e = .returned (.bool true) ∧ Play w w9 S3 p [] (some ⟨b2, o2, none⟩))))
                      unfold Ptr at HSM
                      have HWALK := hid trivial
                      clear h3 ht3 hk3 hq3 HTK hx hb3 hn2
                      subst hn1
                      subst hd1
                      go_wp2_with fail
                      go_quiet (fail)
                      go_wp2_with fail
                      refine wp_region_still_lit (by kernel_rfl) (by kernel_rfl) ?_
                      change wpStill _ _ (World.drew _) (fun a' => Exit.then _ _ Exit.normal a' (World.drew _)) _ _
                      generalize hWS : wpStill Try.prog _ (World.drew _) _ = WS
                      refine still_val hWS (v := ?v1) (by kernel_rfl) ?y1 ?_
                      case y1 => (go_simp; (try with_reducible rfl))
                      simp only [Act.put, List.setIfInBounds_toArray, List.set_cons_zero, List.set_cons_succ]
                      refine still_val hWS (v := ?v2) (by kernel_rfl) ?y2 ?_
                      case y2 => (go_simp; (try with_reducible rfl))
                      simp only [Act.put, List.setIfInBounds_toArray, List.set_cons_zero, List.set_cons_succ]
                      refine still_val hWS (v := ?v3) (by kernel_rfl) ?y3 ?_
                      case y3 => (go_simp; (try with_reducible rfl))
                      simp only [Act.put, List.setIfInBounds_toArray, List.set_cons_zero, List.set_cons_succ]
                      refine still_val hWS (v := ?v4) (by kernel_rfl) ?y4 ?_
                      case y4 => (go_simp; (try with_reducible rfl))
                      simp only [Act.put, List.setIfInBounds_toArray, List.set_cons_zero, List.set_cons_succ]
                      refine still_val hWS (v := ?v5) (by kernel_rfl) ?y5 ?_
                      case y5 => (go_simp; (try with_reducible rfl))
                      simp only [Act.put, List.setIfInBounds_toArray, List.set_cons_zero, List.set_cons_succ]
                      refine still_val hWS (v := ?v6) (by kernel_rfl) ?y6 ?_
                      case y6 => (go_simp; (try with_reducible rfl))
                      simp only [Act.put, List.setIfInBounds_toArray, List.set_cons_zero, List.set_cons_succ]
                      refine still_val hWS (v := ?v7) (by kernel_rfl) ?y7 ?_
                      case y7 => (go_simp; (try with_reducible rfl))
                      simp only [Act.put, List.setIfInBounds_toArray, List.set_cons_zero, List.set_cons_succ]
                      refine still_val hWS (v := ?v8) (by kernel_rfl) ?y8 ?_
                      case y8 => (go_simp; (try with_reducible rfl))
                      simp only [Act.put, List.setIfInBounds_toArray, List.set_cons_zero, List.set_cons_succ]
                      refine still_val hWS (v := ?v9) (by kernel_rfl) ?y9 ?_
                      case y9 => (go_simp; (try with_reducible rfl))
                      simp only [Act.put, List.setIfInBounds_toArray, List.set_cons_zero, List.set_cons_succ]
                      refine still_val hWS (v := ?v10) (by kernel_rfl) ?y10 ?_
                      case y10 => (go_simp; (try with_reducible rfl))
                      simp only [Act.put, List.setIfInBounds_toArray, List.set_cons_zero, List.set_cons_succ]
                      refine still_val hWS (v := ?v11) (by kernel_rfl) ?y11 ?_
                      case y11 => (go_simp; (try with_reducible rfl))
                      simp only [Act.put, List.setIfInBounds_toArray, List.set_cons_zero, List.set_cons_succ]
                      refine still_val hWS (v := ?v12) (by kernel_rfl) ?y12 ?_
                      case y12 => (go_simp; (try with_reducible rfl))
                      simp only [Act.put, List.setIfInBounds_toArray, List.set_cons_zero, List.set_cons_succ]
                      refine still_val hWS (v := ?v13) (by kernel_rfl) ?y13 ?_
                      case y13 => (go_simp; (try with_reducible rfl))
                      simp only [Act.put, List.setIfInBounds_toArray, List.set_cons_zero, List.set_cons_succ]
                      refine still_val hWS (v := ?v14) (by kernel_rfl) ?y14 ?_
                      case y14 => (go_simp; (try with_reducible rfl))
                      simp only [Act.put, List.setIfInBounds_toArray, List.set_cons_zero, List.set_cons_succ]
                      refine still_val hWS (v := ?v15) (by kernel_rfl) ?y15 ?_
                      case y15 => (go_simp; (try with_reducible rfl))
                      simp only [Act.put, List.setIfInBounds_toArray, List.set_cons_zero, List.set_cons_succ]
                      refine still_val hWS (v := ?v16) (by kernel_rfl) ?y16 ?_
                      case y16 => (go_simp; (try with_reducible rfl))
                      simp only [Act.put, List.setIfInBounds_toArray, List.set_cons_zero, List.set_cons_succ]
                      refine still_val hWS (v := ?v17) (by kernel_rfl) ?y17 ?_
                      case y17 => (go_simp; (try with_reducible rfl))
                      simp only [Act.put, List.setIfInBounds_toArray, List.set_cons_zero, List.set_cons_succ]
                      refine still_val hWS (v := ?v18) (by kernel_rfl) ?y18 ?_
                      case y18 => (go_simp; (try with_reducible rfl))
                      simp only [Act.put, List.setIfInBounds_toArray, List.set_cons_zero, List.set_cons_succ]
                      refine still_val hWS (v := ?v19) (by kernel_rfl) ?y19 ?_
                      case y19 => (go_simp; (try with_reducible rfl))
                      simp only [Act.put, List.setIfInBounds_toArray, List.set_cons_zero, List.set_cons_succ]
                      refine still_val hWS (v := ?v20) (by kernel_rfl) ?y20 ?_
                      case y20 => (go_simp; (try with_reducible rfl))
                      simp only [Act.put, List.setIfInBounds_toArray, List.set_cons_zero, List.set_cons_succ]
                      refine still_val hWS (v := ?v21) (by kernel_rfl) ?y21 ?_
                      case y21 => (go_simp; (try with_reducible rfl))
                      simp only [Act.put, List.setIfInBounds_toArray, List.set_cons_zero, List.set_cons_succ]
                      refine still_val hWS (v := ?v22) (by kernel_rfl) ?y22 ?_
                      case y22 => (go_simp; (try with_reducible rfl))
                      simp only [Act.put, List.setIfInBounds_toArray, List.set_cons_zero, List.set_cons_succ]
                      refine still_val hWS (v := ?v23) (by kernel_rfl) ?y23 ?_
                      case y23 => (go_simp; (try with_reducible rfl))
                      simp only [Act.put, List.setIfInBounds_toArray, List.set_cons_zero, List.set_cons_succ]
                      refine still_val hWS (v := ?v24) (by kernel_rfl) ?y24 ?_
                      case y24 => (go_simp; (try with_reducible rfl))
                      simp only [Act.put, List.setIfInBounds_toArray, List.set_cons_zero, List.set_cons_succ]
                      refine still_val hWS (v := ?v25) (by kernel_rfl) ?y25 ?_
                      case y25 => (go_simp; (try with_reducible rfl))
                      simp only [Act.put, List.setIfInBounds_toArray, List.set_cons_zero, List.set_cons_succ]
                      refine still_val hWS (v := ?v26) (by kernel_rfl) ?y26 ?_
                      case y26 => (go_simp; (try with_reducible rfl))
                      simp only [Act.put, List.setIfInBounds_toArray, List.set_cons_zero, List.set_cons_succ]
                      refine still_val hWS (v := ?v27) (by kernel_rfl) ?y27 ?_
                      case y27 => (go_simp; (try with_reducible rfl))
                      simp only [Act.put, List.setIfInBounds_toArray, List.set_cons_zero, List.set_cons_succ]
                      refine still_val hWS (v := ?v28) (by kernel_rfl) ?y28 ?_
                      case y28 => (go_simp; (try with_reducible rfl))
                      simp only [Act.put, List.setIfInBounds_toArray, List.set_cons_zero, List.set_cons_succ]
                      refine still_skip hWS (by kernel_rfl) ?_
                      simp only [Act.put, List.setIfInBounds_toArray, List.set_cons_zero, List.set_cons_succ]
                      refine still_skip hWS (by kernel_rfl) ?_
                      simp only [Act.put, List.setIfInBounds_toArray, List.set_cons_zero, List.set_cons_succ]
                      refine still_skip hWS (by kernel_rfl) ?_
                      simp only [Act.put, List.setIfInBounds_toArray, List.set_cons_zero, List.set_cons_succ]
                      refine still_val hWS (v := ?v32) (by kernel_rfl) ?y32 ?_
                      case y32 => (go_simp; (try with_reducible rfl))
                      simp only [Act.put, List.setIfInBounds_toArray, List.set_cons_zero, List.set_cons_succ]
                      refine still_val hWS (v := ?v33) (by kernel_rfl) ?y33 ?_
                      case y33 => (go_simp; (try with_reducible rfl))
                      simp only [Act.put, List.setIfInBounds_toArray, List.set_cons_zero, List.set_cons_succ]
                      refine still_end hWS ?_
                      clear hWS WS
                      go_wp2_with fail
                      refine (HSM.out _ (by first | exact Mod.drewN ((Mod.refl None w3).alloc _) _ | exact Mod.drewN (Mod.drewN ((Mod.refl None w3).alloc _) _) _)).mono ?_
                      rintro e w9 ⟨rfl, hp9⟩
                      have HP9 := hid hp9
                      clear hp9 HSM
                      go_wp2_with fail
                      go_roundw
                      case rel => exact ⟨k + 1, S3, [], _, _, _, by omega, by go_num, rfl, HP9.out, rfl, by omega, by have := HLS.out; omega⟩
                      case measure => simp [intOf]; omega
                    · have HPL := hid (Play.tail h3 hk3.1 hb3)
                      have HSM := hid (fun w' (hm : Mod None w3 w') => (same_any w w' S3 p s (HPL.out.same hm).live (some ⟨b2, o2 + 2, none⟩) d1 n1 (HN2.out) (HPL.out.same hm).rd (by have := HLS.out; omega)).mono (fun e w9 h => (⟨h.1, (HPL.out.same hm).same h.2.2⟩ : e = .returned (.bool true) ∧ Play w w9 S3 p s (some ⟨b2, o2 + 2, none⟩))))
                      unfold Ptr at HSM
                      have HWALK := hid trivial
                      clear h3 ht3 hk3 hq3 HTK hx hb3 hn2
                      subst hn1
                      subst hd1
                      go_wp2_with fail
                      go_quiet (fail)
                      go_wp2_with fail
                      refine wp_region_still_lit (by kernel_rfl) (by kernel_rfl) ?_
                      change wpStill _ _ (World.drew _) (fun a' => Exit.then _ _ Exit.normal a' (World.drew _)) _ _
                      generalize hWS : wpStill Try.prog _ (World.drew _) _ = WS
                      refine still_val hWS (v := ?v34) (by kernel_rfl) ?y34 ?_
                      case y34 => (go_simp; (try with_reducible rfl))
                      simp only [Act.put, List.setIfInBounds_toArray, List.set_cons_zero, List.set_cons_succ]
                      refine still_val hWS (v := ?v35) (by kernel_rfl) ?y35 ?_
                      case y35 => (go_simp; (try with_reducible rfl))
                      simp only [Act.put, List.setIfInBounds_toArray, List.set_cons_zero, List.set_cons_succ]
                      refine still_val hWS (v := ?v36) (by kernel_rfl) ?y36 ?_
                      case y36 => (go_simp; (try with_reducible rfl))
                      simp only [Act.put, List.setIfInBounds_toArray, List.set_cons_zero, List.set_cons_succ]
                      refine still_val hWS (v := ?v37) (by kernel_rfl) ?y37 ?_
                      case y37 => (go_simp; (try with_reducible rfl))
                      simp only [Act.put, List.setIfInBounds_toArray, List.set_cons_zero, List.set_cons_succ]
                      refine still_val hWS (v := ?v38) (by kernel_rfl) ?y38 ?_
                      case y38 => (go_simp; (try with_reducible rfl))
                      simp only [Act.put, List.setIfInBounds_toArray, List.set_cons_zero, List.set_cons_succ]
                      refine still_val hWS (v := ?v39) (by kernel_rfl) ?y39 ?_
                      case y39 => (go_simp; (try with_reducible rfl))
                      simp only [Act.put, List.setIfInBounds_toArray, List.set_cons_zero, List.set_cons_succ]
                      refine still_val hWS (v := ?v40) (by kernel_rfl) ?y40 ?_
                      case y40 => (go_simp; (try with_reducible rfl))
                      simp only [Act.put, List.setIfInBounds_toArray, List.set_cons_zero, List.set_cons_succ]
                      refine still_val hWS (v := ?v41) (by kernel_rfl) ?y41 ?_
                      case y41 => (go_simp; (try with_reducible rfl))
                      simp only [Act.put, List.setIfInBounds_toArray, List.set_cons_zero, List.set_cons_succ]
                      refine still_val hWS (v := ?v42) (by kernel_rfl) ?y42 ?_
                      case y42 => (go_simp; (try with_reducible rfl))
                      simp only [Act.put, List.setIfInBounds_toArray, List.set_cons_zero, List.set_cons_succ]
                      refine still_val hWS (v := ?v43) (by kernel_rfl) ?y43 ?_
                      case y43 => (go_simp; (try with_reducible rfl))
                      simp only [Act.put, List.setIfInBounds_toArray, List.set_cons_zero, List.set_cons_succ]
                      refine still_val hWS (v := ?v44) (by kernel_rfl) ?y44 ?_
                      case y44 => (go_simp; (try with_reducible rfl))
                      simp only [Act.put, List.setIfInBounds_toArray, List.set_cons_zero, List.set_cons_succ]
                      refine still_val hWS (v := ?v45) (by kernel_rfl) ?y45 ?_
                      case y45 => (go_simp; (try with_reducible rfl))
                      simp only [Act.put, List.setIfInBounds_toArray, List.set_cons_zero, List.set_cons_succ]
                      refine still_val hWS (v := ?v46) (by kernel_rfl) ?y46 ?_
                      case y46 => (go_simp; (try with_reducible rfl))
                      simp only [Act.put, List.setIfInBounds_toArray, List.set_cons_zero, List.set_cons_succ]
                      refine still_val hWS (v := ?v47) (by kernel_rfl) ?y47 ?_
                      case y47 => (go_simp; (try with_reducible rfl))
                      simp only [Act.put, List.setIfInBounds_toArray, List.set_cons_zero, List.set_cons_succ]
                      refine still_val hWS (v := ?v48) (by kernel_rfl) ?y48 ?_
                      case y48 => (go_simp; (try with_reducible rfl))
                      simp only [Act.put, List.setIfInBounds_toArray, List.set_cons_zero, List.set_cons_succ]
                      refine still_val hWS (v := ?v49) (by kernel_rfl) ?y49 ?_
                      case y49 => (go_simp; (try with_reducible rfl))
                      simp only [Act.put, List.setIfInBounds_toArray, List.set_cons_zero, List.set_cons_succ]
                      refine still_val hWS (v := ?v50) (by kernel_rfl) ?y50 ?_
                      case y50 => (go_simp; (try with_reducible rfl))
                      simp only [Act.put, List.setIfInBounds_toArray, List.set_cons_zero, List.set_cons_succ]
                      refine still_val hWS (v := ?v51) (by kernel_rfl) ?y51 ?_
                      case y51 => (go_simp; (try with_reducible rfl))
                      simp only [Act.put, List.setIfInBounds_toArray, List.set_cons_zero, List.set_cons_succ]
                      refine still_val hWS (v := ?v52) (by kernel_rfl) ?y52 ?_
                      case y52 => (go_simp; (try with_reducible rfl))
                      simp only [Act.put, List.setIfInBounds_toArray, List.set_cons_zero, List.set_cons_succ]
                      refine still_val hWS (v := ?v53) (by kernel_rfl) ?y53 ?_
                      case y53 => (go_simp; (try with_reducible rfl))
                      simp only [Act.put, List.setIfInBounds_toArray, List.set_cons_zero, List.set_cons_succ]
                      refine still_val hWS (v := ?v54) (by kernel_rfl) ?y54 ?_
                      case y54 => (go_simp; (try with_reducible rfl))
                      simp only [Act.put, List.setIfInBounds_toArray, List.set_cons_zero, List.set_cons_succ]
                      refine still_val hWS (v := ?v55) (by kernel_rfl) ?y55 ?_
                      case y55 => (go_simp; (try with_reducible rfl))
                      simp only [Act.put, List.setIfInBounds_toArray, List.set_cons_zero, List.set_cons_succ]
                      refine still_val hWS (v := ?v56) (by kernel_rfl) ?y56 ?_
                      case y56 => (go_simp; (try with_reducible rfl))
                      simp only [Act.put, List.setIfInBounds_toArray, List.set_cons_zero, List.set_cons_succ]
                      refine still_val hWS (v := ?v57) (by kernel_rfl) ?y57 ?_
                      case y57 => (go_simp; (try with_reducible rfl))
                      simp only [Act.put, List.setIfInBounds_toArray, List.set_cons_zero, List.set_cons_succ]
                      refine still_val hWS (v := ?v58) (by kernel_rfl) ?y58 ?_
                      case y58 => (go_simp; (try with_reducible rfl))
                      simp only [Act.put, List.setIfInBounds_toArray, List.set_cons_zero, List.set_cons_succ]
                      refine still_val hWS (v := ?v59) (by kernel_rfl) ?y59 ?_
                      case y59 => (go_simp; (try with_reducible rfl))
                      simp only [Act.put, List.setIfInBounds_toArray, List.set_cons_zero, List.set_cons_succ]
                      refine still_val hWS (v := ?v60) (by kernel_rfl) ?y60 ?_
                      case y60 => (go_simp; (try with_reducible rfl))
                      simp only [Act.put, List.setIfInBounds_toArray, List.set_cons_zero, List.set_cons_succ]
                      refine still_val hWS (v := ?v61) (by kernel_rfl) ?y61 ?_
                      case y61 => (go_simp; (try with_reducible rfl))
                      simp only [Act.put, List.setIfInBounds_toArray, List.set_cons_zero, List.set_cons_succ]
                      refine still_skip hWS (by kernel_rfl) ?_
                      simp only [Act.put, List.setIfInBounds_toArray, List.set_cons_zero, List.set_cons_succ]
                      refine still_skip hWS (by kernel_rfl) ?_
                      simp only [Act.put, List.setIfInBounds_toArray, List.set_cons_zero, List.set_cons_succ]
                      refine still_skip hWS (by kernel_rfl) ?_
                      simp only [Act.put, List.setIfInBounds_toArray, List.set_cons_zero, List.set_cons_succ]
                      refine still_val hWS (v := ?v65) (by kernel_rfl) ?y65 ?_
                      case y65 => (go_simp; (try with_reducible rfl))
                      simp only [Act.put, List.setIfInBounds_toArray, List.set_cons_zero, List.set_cons_succ]
                      refine still_val hWS (v := ?v66) (by kernel_rfl) ?y66 ?_
                      case y66 => (go_simp; (try with_reducible rfl))
                      simp only [Act.put, List.setIfInBounds_toArray, List.set_cons_zero, List.set_cons_succ]
                      refine still_end hWS ?_
                      clear hWS WS
                      go_wp2_with fail
                      refine (HSM.out _ (by first | exact Mod.drewN ((Mod.refl None w3).alloc _) _ | exact Mod.drewN (Mod.drewN ((Mod.refl None w3).alloc _) _) _)).mono ?_
                      rintro e w9 ⟨rfl, hp9⟩
                      have HP9 := hid hp9
                      clear hp9 HSM
                      go_wp2_with fail
                      go_roundw
                      case rel => exact ⟨k + 1, S3, s, _, _, _, by omega, by go_num, rfl, HP9.out, HN2.out, HNC.out, by have := HLS.out; omega⟩
                      case measure => simp [intOf]; omega
                  · have HT := hid trivial
                    obtain ⟨b2, o2, rfl, y1, y2⟩ := rd_ent HPL2.out.rd (k := 0) (by simp)
                    have e0 : fn (x :: s) 0 = x := rfl
                    rw [e0, Nat.zero_mul, Nat.add_zero] at y1 y2
                    clear e0 y1 y2
                    have hnp : (0 : Int) < (n : Int) := by have := HN.out; rw [List.length_cons] at this; omega
                    have hnp2 : 0 < n := by omega
                    have hdue : decide (x.2 ≤ du) = false := decide_eq_false hx
                    have HTK := hid (live_take HPL2.out.live du (by have := HLS0.out; omega))
                    rw [show takeL (x :: s) du = (((0, 0), false), x :: s) by simp [takeL, hx]] at HTK
                    unfold Ptr LPost V at HTK
                    go_wp2_with fail
                    refine HTK.out.mono ?_
                    rintro e w3 ⟨S3, rfl, h3, ht3⟩
                    clear hcmp hk1 hk1' hk2 hk2'
                    have hk3 := HPL2.out.kept ht3
                    have hq3 := ht3.mod.blk HQ2.out HNS.out
                    clear z0 z1 z2
                    have z0 := hq3.is (i := 0) rfl
                    have z1 := hq3.is (i := 1) rfl
                    have z2 := hq3.is (i := 2) rfl
                    have hql := hq3.lt
                    obtain ⟨b3, o3, he, y1, y2⟩ := rd_ent hk3.1 (k := 0) (by simp)
                    obtain ⟨rfl, rfl⟩ : b2 = b3 ∧ o2 = o3 := by simpa using he
                    have e0 : fn (x :: s) 0 = x := rfl
                    rw [e0, Nat.zero_mul, Nat.add_zero] at y1 y2
                    clear e0 he
                    have hbl := World.block_lt_of_cell? w3 _ y1
                    have hb3 : ¬ S3 b2 := by
                      rcases hk3.2 with h | ⟨b4, o4, h, h4⟩
                      · cases h
                      · obtain ⟨rfl, rfl⟩ : b2 = b4 ∧ o2 = o4 := by simpa using h
                        exact h4
                    have HPL := hid (⟨h3, hk3.1, .inr ⟨b2, o2, rfl, hb3⟩⟩ : Play w w3 S3 p (x :: s) (some ⟨b2, o2, none⟩))
                    have HLS := hid (show (x :: s).length ≤ k + 1 ∧ k < 300 by have := HLS0.out; omega)
                    have HSM := hid (fun w' (hm : Mod None w3 w') => (same_any w w' S3 p (x :: s) (HPL.out.same hm).live (some ⟨b2, o2, none⟩) c n (HN.out) (HPL.out.same hm).rd (by have := HLS.out; omega)).mono (fun e w9 h => (⟨h.1, (HPL.out.same hm).same h.2.2⟩ : e = .returned (.bool true) ∧ Play w w9 S3 p (x :: s) (some ⟨b2, o2, none⟩))))
                    unfold Ptr at HSM
                    clear h3 ht3 hk3 hq3 HTK hx hb3
                    go_wp2_with fail
                    go_quiet (fail)
                    go_wp2_with fail
                    refine wp_region_still_lit (by kernel_rfl) (by kernel_rfl) ?_
                    change wpStill _ _ (World.drew _) (fun a' => Exit.then _ _ Exit.normal a' (World.drew _)) _ _
                    generalize hWS : wpStill Try.prog _ (World.drew _) _ = WS
                    refine still_val hWS (v := ?v67) (by kernel_rfl) ?y67 ?_
                    case y67 => (go_simp; (try with_reducible rfl))
                    simp only [Act.put, List.setIfInBounds_toArray, List.set_cons_zero, List.set_cons_succ]
                    refine still_val hWS (v := ?v68) (by kernel_rfl) ?y68 ?_
                    case y68 => (go_simp; (try with_reducible rfl))
                    simp only [Act.put, List.setIfInBounds_toArray, List.set_cons_zero, List.set_cons_succ]
                    refine still_val hWS (v := ?v69) (by kernel_rfl) ?y69 ?_
                    case y69 => (go_simp; (try with_reducible rfl))
                    simp only [Act.put, List.setIfInBounds_toArray, List.set_cons_zero, List.set_cons_succ]
                    refine still_val hWS (v := ?v70) (by kernel_rfl) ?y70 ?_
                    case y70 => (go_simp; (try with_reducible rfl))
                    simp only [Act.put, List.setIfInBounds_toArray, List.set_cons_zero, List.set_cons_succ]
                    refine still_val hWS (v := ?v71) (by kernel_rfl) ?y71 ?_
                    case y71 => (go_simp; (try with_reducible rfl))
                    simp only [Act.put, List.setIfInBounds_toArray, List.set_cons_zero, List.set_cons_succ]
                    refine still_val hWS (v := ?v72) (by kernel_rfl) ?y72 ?_
                    case y72 => (go_simp; (try with_reducible rfl))
                    simp only [Act.put, List.setIfInBounds_toArray, List.set_cons_zero, List.set_cons_succ]
                    refine still_skip hWS (by kernel_rfl) ?_
                    simp only [Act.put, List.setIfInBounds_toArray, List.set_cons_zero, List.set_cons_succ]
                    refine still_skip hWS (by kernel_rfl) ?_
                    simp only [Act.put, List.setIfInBounds_toArray, List.set_cons_zero, List.set_cons_succ]
                    refine still_skip hWS (by kernel_rfl) ?_
                    simp only [Act.put, List.setIfInBounds_toArray, List.set_cons_zero, List.set_cons_succ]
                    refine still_skip hWS (by kernel_rfl) ?_
                    simp only [Act.put, List.setIfInBounds_toArray, List.set_cons_zero, List.set_cons_succ]
                    refine still_skip hWS (by kernel_rfl) ?_
                    simp only [Act.put, List.setIfInBounds_toArray, List.set_cons_zero, List.set_cons_succ]
                    refine still_skip hWS (by kernel_rfl) ?_
                    simp only [Act.put, List.setIfInBounds_toArray, List.set_cons_zero, List.set_cons_succ]
                    refine still_skip hWS (by kernel_rfl) ?_
                    simp only [Act.put, List.setIfInBounds_toArray, List.set_cons_zero, List.set_cons_succ]
                    refine still_skip hWS (by kernel_rfl) ?_
                    simp only [Act.put, List.setIfInBounds_toArray, List.set_cons_zero, List.set_cons_succ]
                    refine still_skip hWS (by kernel_rfl) ?_
                    simp only [Act.put, List.setIfInBounds_toArray, List.set_cons_zero, List.set_cons_succ]
                    refine still_skip hWS (by kernel_rfl) ?_
                    simp only [Act.put, List.setIfInBounds_toArray, List.set_cons_zero, List.set_cons_succ]
                    refine still_skip hWS (by kernel_rfl) ?_
                    simp only [Act.put, List.setIfInBounds_toArray, List.set_cons_zero, List.set_cons_succ]
                    refine still_skip hWS (by kernel_rfl) ?_
                    simp only [Act.put, List.setIfInBounds_toArray, List.set_cons_zero, List.set_cons_succ]
                    refine still_skip hWS (by kernel_rfl) ?_
                    simp only [Act.put, List.setIfInBounds_toArray, List.set_cons_zero, List.set_cons_succ]
                    refine still_skip hWS (by kernel_rfl) ?_
                    simp only [Act.put, List.setIfInBounds_toArray, List.set_cons_zero, List.set_cons_succ]
                    refine still_skip hWS (by kernel_rfl) ?_
                    simp only [Act.put, List.setIfInBounds_toArray, List.set_cons_zero, List.set_cons_succ]
                    refine still_skip hWS (by kernel_rfl) ?_
                    simp only [Act.put, List.setIfInBounds_toArray, List.set_cons_zero, List.set_cons_succ]
                    refine still_val hWS (v := ?v89) (by kernel_rfl) ?y89 ?_
                    case y89 => (go_simp; (try with_reducible rfl))
                    simp only [Act.put, List.setIfInBounds_toArray, List.set_cons_zero, List.set_cons_succ]
                    refine still_val hWS (v := ?v90) (by kernel_rfl) ?y90 ?_
                    case y90 => (go_simp; (try with_reducible rfl))
                    simp only [Act.put, List.setIfInBounds_toArray, List.set_cons_zero, List.set_cons_succ]
                    refine still_val hWS (v := ?v91) (by kernel_rfl) ?y91 ?_
                    case y91 => (go_simp; (try with_reducible rfl))
                    simp only [Act.put, List.setIfInBounds_toArray, List.set_cons_zero, List.set_cons_succ]
                    refine still_val hWS (v := ?v92) (by kernel_rfl) ?y92 ?_
                    case y92 => (go_simp; (try with_reducible rfl))
                    simp only [Act.put, List.setIfInBounds_toArray, List.set_cons_zero, List.set_cons_succ]
                    refine still_val hWS (v := ?v93) (by kernel_rfl) ?y93 ?_
                    case y93 => (go_simp; (try with_reducible rfl))
                    simp only [Act.put, List.setIfInBounds_toArray, List.set_cons_zero, List.set_cons_succ]
                    refine still_val hWS (v := ?v94) (by kernel_rfl) ?y94 ?_
                    case y94 => (go_simp; (try with_reducible rfl))
                    simp only [Act.put, List.setIfInBounds_toArray, List.set_cons_zero, List.set_cons_succ]
                    refine still_val hWS (v := ?v95) (by kernel_rfl) ?y95 ?_
                    case y95 => (go_simp; (try with_reducible rfl))
                    simp only [Act.put, List.setIfInBounds_toArray, List.set_cons_zero, List.set_cons_succ]
                    refine still_val hWS (v := ?v96) (by kernel_rfl) ?y96 ?_
                    case y96 => (go_simp; (try with_reducible rfl))
                    simp only [Act.put, List.setIfInBounds_toArray, List.set_cons_zero, List.set_cons_succ]
                    refine still_val hWS (v := ?v97) (by kernel_rfl) ?y97 ?_
                    case y97 => (go_simp; (try with_reducible rfl))
                    simp only [Act.put, List.setIfInBounds_toArray, List.set_cons_zero, List.set_cons_succ]
                    refine still_val hWS (v := ?v98) (by kernel_rfl) ?y98 ?_
                    case y98 => (go_simp; (try with_reducible rfl))
                    simp only [Act.put, List.setIfInBounds_toArray, List.set_cons_zero, List.set_cons_succ]
                    refine still_val hWS (v := ?v99) (by kernel_rfl) ?y99 ?_
                    case y99 => (go_simp; (try with_reducible rfl))
                    simp only [Act.put, List.setIfInBounds_toArray, List.set_cons_zero, List.set_cons_succ]
                    refine still_end hWS ?_
                    clear hWS WS
                    go_wp2_with fail
                    refine (HSM.out _ (by first | exact Mod.drewN ((Mod.refl None w3).alloc _) _ | exact Mod.drewN (Mod.drewN ((Mod.refl None w3).alloc _) _) _)).mono ?_
                    rintro e w9 ⟨rfl, hp9⟩
                    have HP9 := hid hp9
                    clear hp9 HSM
                    go_wp2_with fail
                    go_roundw
                    case rel => exact ⟨k + 1, S3, (x :: s), _, _, _, by omega, by go_num, rfl, HP9.out, HN.out, HC.out, by have := HLS.out; omega⟩
                    case measure => simp [intOf]; omega
              · have hk3' : (kk == 3) = false := by simpa using hk3
                clear hk1 hk2 hk3
                go_wp2_with fail
                refine (HDr0.out _).mono ?_
                rintro e w2 ⟨da, dc, rfl, hdr⟩
                have hm2 := ((Mod.refl None wr).alloc (.cells #[.int .i64 kk, .int .i64 id, .int .i64 du] 40)).trans hdr.mod
                have hq2 := hdr.mod.blk (Blk.new wr 40 #[.int .i64 kk, .int .i64 id, .int .i64 du]) (fun h => h)
                have HPL2 := hid (hrel.out.1.same hm2)
                have HQ2 := hid hq2
                have HNS := hid (show ¬ S wr.heap.size from fun h => by have := hrel.out.1.live.ag.lt _ h; omega)
                have HN := hid hrel.out.2.1
                have HC := hid hrel.out.2.2.1
                have z0 := hq2.is (i := 0) rfl
                have z1 := hq2.is (i := 1) rfl
                have z2 := hq2.is (i := 2) rfl
                clear hdr hm2 hq2 hrel HDr0 c1 c2 c3
                have HPL := hid HPL2.out
                have HLS := hid (show s.length ≤ k + 1 by have := HLS0.out; omega)
                have HSM := hid (same_any w w2 S p s HPL.out.live la c n (HN.out) HPL.out.rd (by have := HLS.out; omega))
                unfold Ptr SamePost at HSM
                go_wp2_with fail
                refine HSM.out.mono ?_
                rintro e w9 ⟨rfl, _, hm9⟩
                have HP9 := hid (HPL.out.same hm9)
                clear hm9 HSM HPL
                go_wp2_with fail
                go_roundw
                case rel => exact ⟨k + 1, S, s, la, n, c, by omega, by go_num, rfl, HP9.out, HN.out, HC.out, by have := HLS.out; omega⟩
                case measure => simp [intOf]; omega
        | false =>
          have hcmp : ¬ ((dropL s id).length : Int) < (n : Int) := by have := HTH0.out; rw [hth] at this; have h2 := of_decide_eq_false this.symm; have := HNN.out; omega
          have HTH := hid hth
          clear hth
          by_cases hk1 : kk = 1
          · subst hk1
            go_wp2_with fail
            refine (HDr0.out _).mono ?_
            rintro e w2 ⟨da, dc, rfl, hdr⟩
            have hm2 := ((Mod.refl None wr).alloc (.cells #[.int .i64 1, .int .i64 id, .int .i64 du] 40)).trans hdr.mod
            have hq2 := hdr.mod.blk (Blk.new wr 40 #[.int .i64 1, .int .i64 id, .int .i64 du]) (fun h => h)
            have HPL2 := hid (hrel.out.1.same hm2)
            have HQ2 := hid hq2
            have HNS := hid (show ¬ S wr.heap.size from fun h => by have := hrel.out.1.live.ag.lt _ h; omega)
            have HN := hid hrel.out.2.1
            have HC := hid hrel.out.2.2.1
            have z0 := hq2.is (i := 0) rfl
            have z1 := hq2.is (i := 1) rfl
            have z2 := hq2.is (i := 2) rfl
            clear hdr hm2 hq2 hrel HDr0 c1 c2 c3
            have HPut := hid (live_put HPL2.out.live (id, du) ⟨i2, i3⟩ (by have := HLS0.out; omega))
            rw [HTH.out] at HPut
            unfold Ptr LPost at HPut
            go_wp2_with fail
            refine HPut.out.mono ?_
            rintro e w3 ⟨S3, rfl, h3, ht3⟩
            have hk3 := HPL2.out.kept ht3
            have hq3 := ht3.mod.blk HQ2.out HNS.out
            have HRP := hid (refput_any w3 la c n s HN.out hk3.1 (id, du) (by have := HLS0.out; omega))
            unfold V at HRP
            have H3 := hid h3
            clear z0 z1 z2
            have z0 := hq3.is (i := 0) rfl
            have z1 := hq3.is (i := 1) rfl
            have z2 := hq3.is (i := 2) rfl
            clear h3 ht3 hk3 hq3 HPut
            go_wp2_with fail
            refine HRP.out.mono ?_
            rintro e w4 ⟨pa, pc, rfl, hpr⟩
            have HPL := hid (Play.of H3.out hpr)
            have HCP := hid hpr.cap
            have HLS := hid (show (putL s (id, du)).length ≤ k + 1 by have := putL_len s (id, du); have := HLS0.out; omega)
            clear hpr HRP H3
            have HSM := hid (same_any w w4 S3 p (putL s (id, du)) HPL.out.live pa pc (putL s (id, du)).length (rfl) HPL.out.rd (by have := HLS.out; omega))
            unfold Ptr SamePost at HSM
            go_wp2_with fail
            refine HSM.out.mono ?_
            rintro e w9 ⟨rfl, _, hm9⟩
            have HP9 := hid (HPL.out.same hm9)
            clear hm9 HSM HPL
            go_wp2_with fail
            go_roundw
            case rel => exact ⟨k + 1, S3, (putL s (id, du)), pa, (putL s (id, du)).length, pc, by omega, by go_num, rfl, HP9.out, rfl, HCP.out, by have := HLS.out; omega⟩
            case measure => simp [intOf]; omega
          · have hk1' : (kk == 1) = false := by simpa using hk1
            by_cases hk2 : kk = 2
            · subst hk2
              go_wp2_with fail
              refine (HDr0.out _).mono ?_
              rintro e w2 ⟨da, dc, rfl, hdr⟩
              have hm2 := ((Mod.refl None wr).alloc (.cells #[.int .i64 2, .int .i64 id, .int .i64 du] 40)).trans hdr.mod
              have hq2 := hdr.mod.blk (Blk.new wr 40 #[.int .i64 2, .int .i64 id, .int .i64 du]) (fun h => h)
              have HPL2 := hid (hrel.out.1.same hm2)
              have HQ2 := hid hq2
              have HNS := hid (show ¬ S wr.heap.size from fun h => by have := hrel.out.1.live.ag.lt _ h; omega)
              have HN := hid hrel.out.2.1
              have HC := hid hrel.out.2.2.1
              have z0 := hq2.is (i := 0) rfl
              have z1 := hq2.is (i := 1) rfl
              have z2 := hq2.is (i := 2) rfl
              clear hdr hm2 hq2 hrel HDr0 c1 c2 c3
              have HDr := hid (live_drop HPL2.out.live id i2 (by have := HLS0.out; omega))
              rw [HTH.out] at HDr
              unfold Ptr LPost at HDr
              go_wp2_with fail
              refine HDr.out.mono ?_
              rintro e w3 ⟨S3, rfl, h3, ht3⟩
              have hk3 := HPL2.out.kept ht3
              have hq3 := ht3.mod.blk HQ2.out HNS.out
              have HRP := hid (refdrop_any w3 la c n s HN.out hk3.1 id (by have := HLS0.out; omega))
              have H3 := hid h3
              clear z0 z1 z2
              have z0 := hq3.is (i := 0) rfl
              have z1 := hq3.is (i := 1) rfl
              have z2 := hq3.is (i := 2) rfl
              clear h3 ht3 hk3 hq3 HDr
              go_wp2_with fail
              refine HRP.out.mono ?_
              rintro e w4 ⟨pa, pc, rfl, hpr⟩
              have HPL := hid (Play.of H3.out hpr)
              have HCP := hid hpr.cap
              have HLS := hid (show (dropL s id).length ≤ k + 1 by have := dropL_le s id; have := HLS0.out; omega)
              clear hpr HRP H3
              have HSM := hid (same_any w w4 S3 p (dropL s id) HPL.out.live pa pc (dropL s id).length (rfl) HPL.out.rd (by have := HLS.out; omega))
              unfold Ptr SamePost at HSM
              go_wp2_with fail
              refine HSM.out.mono ?_
              rintro e w9 ⟨rfl, _, hm9⟩
              have HP9 := hid (HPL.out.same hm9)
              clear hm9 HSM HPL
              go_wp2_with fail
              go_roundw
              case rel => exact ⟨k + 1, S3, (dropL s id), pa, (dropL s id).length, pc, by omega, by go_num, rfl, HP9.out, rfl, HCP.out, by have := HLS.out; omega⟩
              case measure => simp [intOf]; omega
            · have hk2' : (kk == 2) = false := by simpa using hk2
              by_cases hk3 : kk = 3
              · subst hk3
                go_wp2_with fail
                refine (HDr0.out _).mono ?_
                rintro e w2 ⟨da, dc, rfl, hdr⟩
                have hm2 := ((Mod.refl None wr).alloc (.cells #[.int .i64 3, .int .i64 id, .int .i64 du] 40)).trans hdr.mod
                have hq2 := hdr.mod.blk (Blk.new wr 40 #[.int .i64 3, .int .i64 id, .int .i64 du]) (fun h => h)
                have HPL2 := hid (hrel.out.1.same hm2)
                have HQ2 := hid hq2
                have HNS := hid (show ¬ S wr.heap.size from fun h => by have := hrel.out.1.live.ag.lt _ h; omega)
                have HN := hid hrel.out.2.1
                have HC := hid hrel.out.2.2.1
                have z0 := hq2.is (i := 0) rfl
                have z1 := hq2.is (i := 1) rfl
                have z2 := hq2.is (i := 2) rfl
                clear hdr hm2 hq2 hrel HDr0 c1 c2 c3
                cases s with
                | nil =>
                  have HTK := hid (live_take HPL2.out.live du (by have := HLS0.out; omega))
                  rw [show takeL [] du = (((0, 0), false), []) from rfl] at HTK
                  unfold Ptr LPost V at HTK
                  go_wp2_with fail
                  refine HTK.out.mono ?_
                  rintro e w3 ⟨S3, rfl, h3, ht3⟩
                  clear hcmp hk1 hk1' hk2 hk2'
                  have hk3 := HPL2.out.kept ht3
                  have hq3 := ht3.mod.blk HQ2.out HNS.out
                  clear z0 z1 z2
                  have z0 := hq3.is (i := 0) rfl
                  have z1 := hq3.is (i := 1) rfl
                  have z2 := hq3.is (i := 2) rfl
                  have hql := hq3.lt
                  have HPL := hid (⟨h3, .inl rfl, .inl rfl⟩ : Play w w3 S3 p [] la)
                  have HLS := hid (show ([] : List Ent).length ≤ k + 1 ∧ k < 300 by have := HLS0.out; simp; omega)
                  have hn0 : n = 0 := HN.out
                  have HSM := hid (fun w' (hm : Mod None w3 w') => (same_any w w' S3 p [] (HPL.out.same hm).live la c n (HN.out) (HPL.out.same hm).rd (by have := HLS.out; omega)).mono (fun e w9 h => (⟨h.1, (HPL.out.same hm).same h.2.2⟩ : e = .returned (.bool true) ∧ Play w w9 S3 p [] la)))
                  unfold Ptr at HSM
                  clear h3 ht3 hk3 hq3 HTK
                  subst hn0
                  go_wp2_with fail
                  go_quiet (fail)
                  go_wp2_with fail
                  refine wp_region_still_lit (by kernel_rfl) (by kernel_rfl) ?_
                  change wpStill _ _ (World.drew _) (fun a' => Exit.then _ _ Exit.normal a' (World.drew _)) _ _
                  generalize hWS : wpStill Try.prog _ (World.drew _) _ = WS
                  refine still_val hWS (v := ?v100) (by kernel_rfl) ?y100 ?_
                  case y100 => (go_simp; (try with_reducible rfl))
                  simp only [Act.put, List.setIfInBounds_toArray, List.set_cons_zero, List.set_cons_succ]
                  refine still_val hWS (v := ?v101) (by kernel_rfl) ?y101 ?_
                  case y101 => (go_simp; (try with_reducible rfl))
                  simp only [Act.put, List.setIfInBounds_toArray, List.set_cons_zero, List.set_cons_succ]
                  refine still_val hWS (v := ?v102) (by kernel_rfl) ?y102 ?_
                  case y102 => (go_simp; (try with_reducible rfl))
                  simp only [Act.put, List.setIfInBounds_toArray, List.set_cons_zero, List.set_cons_succ]
                  refine still_val hWS (v := ?v103) (by kernel_rfl) ?y103 ?_
                  case y103 => (go_simp; (try with_reducible rfl))
                  simp only [Act.put, List.setIfInBounds_toArray, List.set_cons_zero, List.set_cons_succ]
                  refine still_val hWS (v := ?v104) (by kernel_rfl) ?y104 ?_
                  case y104 => (go_simp; (try with_reducible rfl))
                  simp only [Act.put, List.setIfInBounds_toArray, List.set_cons_zero, List.set_cons_succ]
                  refine still_val hWS (v := ?v105) (by kernel_rfl) ?y105 ?_
                  case y105 => (go_simp; (try with_reducible rfl))
                  simp only [Act.put, List.setIfInBounds_toArray, List.set_cons_zero, List.set_cons_succ]
                  refine still_skip hWS (by kernel_rfl) ?_
                  simp only [Act.put, List.setIfInBounds_toArray, List.set_cons_zero, List.set_cons_succ]
                  refine still_skip hWS (by kernel_rfl) ?_
                  simp only [Act.put, List.setIfInBounds_toArray, List.set_cons_zero, List.set_cons_succ]
                  refine still_skip hWS (by kernel_rfl) ?_
                  simp only [Act.put, List.setIfInBounds_toArray, List.set_cons_zero, List.set_cons_succ]
                  refine still_skip hWS (by kernel_rfl) ?_
                  simp only [Act.put, List.setIfInBounds_toArray, List.set_cons_zero, List.set_cons_succ]
                  refine still_skip hWS (by kernel_rfl) ?_
                  simp only [Act.put, List.setIfInBounds_toArray, List.set_cons_zero, List.set_cons_succ]
                  refine still_skip hWS (by kernel_rfl) ?_
                  simp only [Act.put, List.setIfInBounds_toArray, List.set_cons_zero, List.set_cons_succ]
                  refine still_skip hWS (by kernel_rfl) ?_
                  simp only [Act.put, List.setIfInBounds_toArray, List.set_cons_zero, List.set_cons_succ]
                  refine still_skip hWS (by kernel_rfl) ?_
                  simp only [Act.put, List.setIfInBounds_toArray, List.set_cons_zero, List.set_cons_succ]
                  refine still_skip hWS (by kernel_rfl) ?_
                  simp only [Act.put, List.setIfInBounds_toArray, List.set_cons_zero, List.set_cons_succ]
                  refine still_skip hWS (by kernel_rfl) ?_
                  simp only [Act.put, List.setIfInBounds_toArray, List.set_cons_zero, List.set_cons_succ]
                  refine still_skip hWS (by kernel_rfl) ?_
                  simp only [Act.put, List.setIfInBounds_toArray, List.set_cons_zero, List.set_cons_succ]
                  refine still_skip hWS (by kernel_rfl) ?_
                  simp only [Act.put, List.setIfInBounds_toArray, List.set_cons_zero, List.set_cons_succ]
                  refine still_skip hWS (by kernel_rfl) ?_
                  simp only [Act.put, List.setIfInBounds_toArray, List.set_cons_zero, List.set_cons_succ]
                  refine still_skip hWS (by kernel_rfl) ?_
                  simp only [Act.put, List.setIfInBounds_toArray, List.set_cons_zero, List.set_cons_succ]
                  refine still_skip hWS (by kernel_rfl) ?_
                  simp only [Act.put, List.setIfInBounds_toArray, List.set_cons_zero, List.set_cons_succ]
                  refine still_skip hWS (by kernel_rfl) ?_
                  simp only [Act.put, List.setIfInBounds_toArray, List.set_cons_zero, List.set_cons_succ]
                  refine still_val hWS (v := ?v122) (by kernel_rfl) ?y122 ?_
                  case y122 => (go_simp; (try with_reducible rfl))
                  simp only [Act.put, List.setIfInBounds_toArray, List.set_cons_zero, List.set_cons_succ]
                  refine still_val hWS (v := ?v123) (by kernel_rfl) ?y123 ?_
                  case y123 => (go_simp; (try with_reducible rfl))
                  simp only [Act.put, List.setIfInBounds_toArray, List.set_cons_zero, List.set_cons_succ]
                  refine still_val hWS (v := ?v124) (by kernel_rfl) ?y124 ?_
                  case y124 => (go_simp; (try with_reducible rfl))
                  simp only [Act.put, List.setIfInBounds_toArray, List.set_cons_zero, List.set_cons_succ]
                  refine still_val hWS (v := ?v125) (by kernel_rfl) ?y125 ?_
                  case y125 => (go_simp; (try with_reducible rfl))
                  simp only [Act.put, List.setIfInBounds_toArray, List.set_cons_zero, List.set_cons_succ]
                  refine still_val hWS (v := ?v126) (by kernel_rfl) ?y126 ?_
                  case y126 => (go_simp; (try with_reducible rfl))
                  simp only [Act.put, List.setIfInBounds_toArray, List.set_cons_zero, List.set_cons_succ]
                  refine still_val hWS (v := ?v127) (by kernel_rfl) ?y127 ?_
                  case y127 => (go_simp; (try with_reducible rfl))
                  simp only [Act.put, List.setIfInBounds_toArray, List.set_cons_zero, List.set_cons_succ]
                  refine still_val hWS (v := ?v128) (by kernel_rfl) ?y128 ?_
                  case y128 => (go_simp; (try with_reducible rfl))
                  simp only [Act.put, List.setIfInBounds_toArray, List.set_cons_zero, List.set_cons_succ]
                  refine still_val hWS (v := ?v129) (by kernel_rfl) ?y129 ?_
                  case y129 => (go_simp; (try with_reducible rfl))
                  simp only [Act.put, List.setIfInBounds_toArray, List.set_cons_zero, List.set_cons_succ]
                  refine still_val hWS (v := ?v130) (by kernel_rfl) ?y130 ?_
                  case y130 => (go_simp; (try with_reducible rfl))
                  simp only [Act.put, List.setIfInBounds_toArray, List.set_cons_zero, List.set_cons_succ]
                  refine still_val hWS (v := ?v131) (by kernel_rfl) ?y131 ?_
                  case y131 => (go_simp; (try with_reducible rfl))
                  simp only [Act.put, List.setIfInBounds_toArray, List.set_cons_zero, List.set_cons_succ]
                  refine still_val hWS (v := ?v132) (by kernel_rfl) ?y132 ?_
                  case y132 => (go_simp; (try with_reducible rfl))
                  simp only [Act.put, List.setIfInBounds_toArray, List.set_cons_zero, List.set_cons_succ]
                  refine still_end hWS ?_
                  clear hWS WS
                  go_wp2_with fail
                  refine (HSM.out _ (by first | exact Mod.drewN ((Mod.refl None w3).alloc _) _ | exact Mod.drewN (Mod.drewN ((Mod.refl None w3).alloc _) _) _)).mono ?_
                  rintro e w9 ⟨rfl, hp9⟩
                  have HP9 := hid hp9
                  clear hp9 HSM
                  go_wp2_with fail
                  go_roundw
                  case rel => exact ⟨k + 1, S3, [], _, _, _, by omega, by go_num, rfl, HP9.out, rfl, by omega, by have := HLS.out; omega⟩
                  case measure => simp [intOf]; omega
                | cons x s =>
                  by_cases hx : x.2 ≤ du
                  · have HT := hid trivial
                    obtain ⟨b2, o2, rfl, y1, y2⟩ := rd_ent HPL2.out.rd (k := 0) (by simp)
                    have e0 : fn (x :: s) 0 = x := rfl
                    rw [e0, Nat.zero_mul, Nat.add_zero] at y1 y2
                    clear e0 y1 y2
                    have hnp : (0 : Int) < (n : Int) := by have := HN.out; rw [List.length_cons] at this; omega
                    have hnp2 : 0 < n := by omega
                    have hdue : decide (x.2 ≤ du) = true := decide_eq_true hx
                    have hne1 : (x.1 != x.1) = false := by simp
                    have hne2 : (x.2 != x.2) = false := by simp
                    have HTK := hid (live_take HPL2.out.live du (by have := HLS0.out; omega))
                    rw [show takeL (x :: s) du = ((x, true), s) by simp [takeL, hx]] at HTK
                    unfold Ptr LPost V at HTK
                    go_wp2_with fail
                    refine HTK.out.mono ?_
                    rintro e w3 ⟨S3, rfl, h3, ht3⟩
                    clear hcmp hk1 hk1' hk2 hk2'
                    have hk3 := HPL2.out.kept ht3
                    have hq3 := ht3.mod.blk HQ2.out HNS.out
                    clear z0 z1 z2
                    have z0 := hq3.is (i := 0) rfl
                    have z1 := hq3.is (i := 1) rfl
                    have z2 := hq3.is (i := 2) rfl
                    have hql := hq3.lt
                    obtain ⟨b3, o3, he, y1, y2⟩ := rd_ent hk3.1 (k := 0) (by simp)
                    obtain ⟨rfl, rfl⟩ : b2 = b3 ∧ o2 = o3 := by simpa using he
                    have e0 : fn (x :: s) 0 = x := rfl
                    rw [e0, Nat.zero_mul, Nat.add_zero] at y1 y2
                    clear e0 he
                    have hbl := World.block_lt_of_cell? w3 _ y1
                    have hb3 : ¬ S3 b2 := by
                      rcases hk3.2 with h | ⟨b4, o4, h, h4⟩
                      · cases h
                      · obtain ⟨rfl, rfl⟩ : b2 = b4 ∧ o2 = o4 := by simpa using h
                        exact h4
                    obtain ⟨n1, hn1⟩ : ∃ n1, n = n1 + 1 := ⟨n - 1, by omega⟩
                    obtain ⟨d1, hd1⟩ : ∃ d1, c = d1 + 1 := ⟨c - 1, by have := HC.out; omega⟩
                    have hn2 : n1 = s.length := by have := HN.out; rw [List.length_cons] at this; omega
                    have hnc : n1 ≤ d1 := by have := HC.out; omega
                    have HN2 := hid hn2
                    have HNC := hid hnc
                    have HLS := hid (show s.length ≤ k + 1 ∧ k < 300 by have := HLS0.out; rw [List.length_cons] at this; omega)
                    by_cases hd0 : d1 = 0
                    · have hs0 : s = [] := List.eq_nil_of_length_eq_zero (by omega)
                      subst hs0
                      subst hd0
                      obtain rfl : n1 = 0 := by omega
                      have HPL := hid (⟨h3, .inl rfl, .inl rfl⟩ : Play w w3 S3 p [] (some ⟨b2, o2, none⟩))
                      have HSM := hid (fun w' (hm : Mod None w3 w') => (same_any w w' S3 p [] (HPL.out.same hm).live (some ⟨b2, o2, none⟩) 0 0 (rfl) (HPL.out.same hm).rd (by have := HLS.out; omega)).mono (fun e w9 h => (⟨h.1, (HPL.out.same hm).same h.2.2⟩ : e = .returned (.bool true) ∧ Play w w9 S3 p [] (some ⟨b2, o2, none⟩))))
                      unfold Ptr at HSM
                      have HWALK := hid trivial
                      clear h3 ht3 hk3 hq3 HTK hx hb3 hn2
                      subst hn1
                      subst hd1
                      go_wp2_with fail
                      go_quiet (fail)
                      go_wp2_with fail
                      refine wp_region_still_lit (by kernel_rfl) (by kernel_rfl) ?_
                      change wpStill _ _ (World.drew _) (fun a' => Exit.then _ _ Exit.normal a' (World.drew _)) _ _
                      generalize hWS : wpStill Try.prog _ (World.drew _) _ = WS
                      refine still_val hWS (v := ?v133) (by kernel_rfl) ?y133 ?_
                      case y133 => (go_simp; (try with_reducible rfl))
                      simp only [Act.put, List.setIfInBounds_toArray, List.set_cons_zero, List.set_cons_succ]
                      refine still_val hWS (v := ?v134) (by kernel_rfl) ?y134 ?_
                      case y134 => (go_simp; (try with_reducible rfl))
                      simp only [Act.put, List.setIfInBounds_toArray, List.set_cons_zero, List.set_cons_succ]
                      refine still_val hWS (v := ?v135) (by kernel_rfl) ?y135 ?_
                      case y135 => (go_simp; (try with_reducible rfl))
                      simp only [Act.put, List.setIfInBounds_toArray, List.set_cons_zero, List.set_cons_succ]
                      refine still_val hWS (v := ?v136) (by kernel_rfl) ?y136 ?_
                      case y136 => (go_simp; (try with_reducible rfl))
                      simp only [Act.put, List.setIfInBounds_toArray, List.set_cons_zero, List.set_cons_succ]
                      refine still_val hWS (v := ?v137) (by kernel_rfl) ?y137 ?_
                      case y137 => (go_simp; (try with_reducible rfl))
                      simp only [Act.put, List.setIfInBounds_toArray, List.set_cons_zero, List.set_cons_succ]
                      refine still_val hWS (v := ?v138) (by kernel_rfl) ?y138 ?_
                      case y138 => (go_simp; (try with_reducible rfl))
                      simp only [Act.put, List.setIfInBounds_toArray, List.set_cons_zero, List.set_cons_succ]
                      refine still_val hWS (v := ?v139) (by kernel_rfl) ?y139 ?_
                      case y139 => (go_simp; (try with_reducible rfl))
                      simp only [Act.put, List.setIfInBounds_toArray, List.set_cons_zero, List.set_cons_succ]
                      refine still_val hWS (v := ?v140) (by kernel_rfl) ?y140 ?_
                      case y140 => (go_simp; (try with_reducible rfl))
                      simp only [Act.put, List.setIfInBounds_toArray, List.set_cons_zero, List.set_cons_succ]
                      refine still_val hWS (v := ?v141) (by kernel_rfl) ?y141 ?_
                      case y141 => (go_simp; (try with_reducible rfl))
                      simp only [Act.put, List.setIfInBounds_toArray, List.set_cons_zero, List.set_cons_succ]
                      refine still_val hWS (v := ?v142) (by kernel_rfl) ?y142 ?_
                      case y142 => (go_simp; (try with_reducible rfl))
                      simp only [Act.put, List.setIfInBounds_toArray, List.set_cons_zero, List.set_cons_succ]
                      refine still_val hWS (v := ?v143) (by kernel_rfl) ?y143 ?_
                      case y143 => (go_simp; (try with_reducible rfl))
                      simp only [Act.put, List.setIfInBounds_toArray, List.set_cons_zero, List.set_cons_succ]
                      refine still_val hWS (v := ?v144) (by kernel_rfl) ?y144 ?_
                      case y144 => (go_simp; (try with_reducible rfl))
                      simp only [Act.put, List.setIfInBounds_toArray, List.set_cons_zero, List.set_cons_succ]
                      refine still_val hWS (v := ?v145) (by kernel_rfl) ?y145 ?_
                      case y145 => (go_simp; (try with_reducible rfl))
                      simp only [Act.put, List.setIfInBounds_toArray, List.set_cons_zero, List.set_cons_succ]
                      refine still_val hWS (v := ?v146) (by kernel_rfl) ?y146 ?_
                      case y146 => (go_simp; (try with_reducible rfl))
                      simp only [Act.put, List.setIfInBounds_toArray, List.set_cons_zero, List.set_cons_succ]
                      refine still_val hWS (v := ?v147) (by kernel_rfl) ?y147 ?_
                      case y147 => (go_simp; (try with_reducible rfl))
                      simp only [Act.put, List.setIfInBounds_toArray, List.set_cons_zero, List.set_cons_succ]
                      refine still_val hWS (v := ?v148) (by kernel_rfl) ?y148 ?_
                      case y148 => (go_simp; (try with_reducible rfl))
                      simp only [Act.put, List.setIfInBounds_toArray, List.set_cons_zero, List.set_cons_succ]
                      refine still_val hWS (v := ?v149) (by kernel_rfl) ?y149 ?_
                      case y149 => (go_simp; (try with_reducible rfl))
                      simp only [Act.put, List.setIfInBounds_toArray, List.set_cons_zero, List.set_cons_succ]
                      refine still_val hWS (v := ?v150) (by kernel_rfl) ?y150 ?_
                      case y150 => (go_simp; (try with_reducible rfl))
                      simp only [Act.put, List.setIfInBounds_toArray, List.set_cons_zero, List.set_cons_succ]
                      refine still_val hWS (v := ?v151) (by kernel_rfl) ?y151 ?_
                      case y151 => (go_simp; (try with_reducible rfl))
                      simp only [Act.put, List.setIfInBounds_toArray, List.set_cons_zero, List.set_cons_succ]
                      refine still_val hWS (v := ?v152) (by kernel_rfl) ?y152 ?_
                      case y152 => (go_simp; (try with_reducible rfl))
                      simp only [Act.put, List.setIfInBounds_toArray, List.set_cons_zero, List.set_cons_succ]
                      refine still_val hWS (v := ?v153) (by kernel_rfl) ?y153 ?_
                      case y153 => (go_simp; (try with_reducible rfl))
                      simp only [Act.put, List.setIfInBounds_toArray, List.set_cons_zero, List.set_cons_succ]
                      refine still_val hWS (v := ?v154) (by kernel_rfl) ?y154 ?_
                      case y154 => (go_simp; (try with_reducible rfl))
                      simp only [Act.put, List.setIfInBounds_toArray, List.set_cons_zero, List.set_cons_succ]
                      refine still_val hWS (v := ?v155) (by kernel_rfl) ?y155 ?_
                      case y155 => (go_simp; (try with_reducible rfl))
                      simp only [Act.put, List.setIfInBounds_toArray, List.set_cons_zero, List.set_cons_succ]
                      refine still_val hWS (v := ?v156) (by kernel_rfl) ?y156 ?_
                      case y156 => (go_simp; (try with_reducible rfl))
                      simp only [Act.put, List.setIfInBounds_toArray, List.set_cons_zero, List.set_cons_succ]
                      refine still_val hWS (v := ?v157) (by kernel_rfl) ?y157 ?_
                      case y157 => (go_simp; (try with_reducible rfl))
                      simp only [Act.put, List.setIfInBounds_toArray, List.set_cons_zero, List.set_cons_succ]
                      refine still_val hWS (v := ?v158) (by kernel_rfl) ?y158 ?_
                      case y158 => (go_simp; (try with_reducible rfl))
                      simp only [Act.put, List.setIfInBounds_toArray, List.set_cons_zero, List.set_cons_succ]
                      refine still_val hWS (v := ?v159) (by kernel_rfl) ?y159 ?_
                      case y159 => (go_simp; (try with_reducible rfl))
                      simp only [Act.put, List.setIfInBounds_toArray, List.set_cons_zero, List.set_cons_succ]
                      refine still_val hWS (v := ?v160) (by kernel_rfl) ?y160 ?_
                      case y160 => (go_simp; (try with_reducible rfl))
                      simp only [Act.put, List.setIfInBounds_toArray, List.set_cons_zero, List.set_cons_succ]
                      refine still_skip hWS (by kernel_rfl) ?_
                      simp only [Act.put, List.setIfInBounds_toArray, List.set_cons_zero, List.set_cons_succ]
                      refine still_skip hWS (by kernel_rfl) ?_
                      simp only [Act.put, List.setIfInBounds_toArray, List.set_cons_zero, List.set_cons_succ]
                      refine still_skip hWS (by kernel_rfl) ?_
                      simp only [Act.put, List.setIfInBounds_toArray, List.set_cons_zero, List.set_cons_succ]
                      refine still_val hWS (v := ?v164) (by kernel_rfl) ?y164 ?_
                      case y164 => (go_simp; (try with_reducible rfl))
                      simp only [Act.put, List.setIfInBounds_toArray, List.set_cons_zero, List.set_cons_succ]
                      refine still_val hWS (v := ?v165) (by kernel_rfl) ?y165 ?_
                      case y165 => (go_simp; (try with_reducible rfl))
                      simp only [Act.put, List.setIfInBounds_toArray, List.set_cons_zero, List.set_cons_succ]
                      refine still_end hWS ?_
                      clear hWS WS
                      go_wp2_with fail
                      refine (HSM.out _ (by first | exact Mod.drewN ((Mod.refl None w3).alloc _) _ | exact Mod.drewN (Mod.drewN ((Mod.refl None w3).alloc _) _) _)).mono ?_
                      rintro e w9 ⟨rfl, hp9⟩
                      have HP9 := hid hp9
                      clear hp9 HSM
                      go_wp2_with fail
                      go_roundw
                      case rel => exact ⟨k + 1, S3, [], _, _, _, by omega, by go_num, rfl, HP9.out, rfl, by omega, by have := HLS.out; omega⟩
                      case measure => simp [intOf]; omega
                    · have HPL := hid (Play.tail h3 hk3.1 hb3)
                      have HSM := hid (fun w' (hm : Mod None w3 w') => (same_any w w' S3 p s (HPL.out.same hm).live (some ⟨b2, o2 + 2, none⟩) d1 n1 (HN2.out) (HPL.out.same hm).rd (by have := HLS.out; omega)).mono (fun e w9 h => (⟨h.1, (HPL.out.same hm).same h.2.2⟩ : e = .returned (.bool true) ∧ Play w w9 S3 p s (some ⟨b2, o2 + 2, none⟩))))
                      unfold Ptr at HSM
                      have HWALK := hid trivial
                      clear h3 ht3 hk3 hq3 HTK hx hb3 hn2
                      subst hn1
                      subst hd1
                      go_wp2_with fail
                      go_quiet (fail)
                      go_wp2_with fail
                      refine wp_region_still_lit (by kernel_rfl) (by kernel_rfl) ?_
                      change wpStill _ _ (World.drew _) (fun a' => Exit.then _ _ Exit.normal a' (World.drew _)) _ _
                      generalize hWS : wpStill Try.prog _ (World.drew _) _ = WS
                      refine still_val hWS (v := ?v166) (by kernel_rfl) ?y166 ?_
                      case y166 => (go_simp; (try with_reducible rfl))
                      simp only [Act.put, List.setIfInBounds_toArray, List.set_cons_zero, List.set_cons_succ]
                      refine still_val hWS (v := ?v167) (by kernel_rfl) ?y167 ?_
                      case y167 => (go_simp; (try with_reducible rfl))
                      simp only [Act.put, List.setIfInBounds_toArray, List.set_cons_zero, List.set_cons_succ]
                      refine still_val hWS (v := ?v168) (by kernel_rfl) ?y168 ?_
                      case y168 => (go_simp; (try with_reducible rfl))
                      simp only [Act.put, List.setIfInBounds_toArray, List.set_cons_zero, List.set_cons_succ]
                      refine still_val hWS (v := ?v169) (by kernel_rfl) ?y169 ?_
                      case y169 => (go_simp; (try with_reducible rfl))
                      simp only [Act.put, List.setIfInBounds_toArray, List.set_cons_zero, List.set_cons_succ]
                      refine still_val hWS (v := ?v170) (by kernel_rfl) ?y170 ?_
                      case y170 => (go_simp; (try with_reducible rfl))
                      simp only [Act.put, List.setIfInBounds_toArray, List.set_cons_zero, List.set_cons_succ]
                      refine still_val hWS (v := ?v171) (by kernel_rfl) ?y171 ?_
                      case y171 => (go_simp; (try with_reducible rfl))
                      simp only [Act.put, List.setIfInBounds_toArray, List.set_cons_zero, List.set_cons_succ]
                      refine still_val hWS (v := ?v172) (by kernel_rfl) ?y172 ?_
                      case y172 => (go_simp; (try with_reducible rfl))
                      simp only [Act.put, List.setIfInBounds_toArray, List.set_cons_zero, List.set_cons_succ]
                      refine still_val hWS (v := ?v173) (by kernel_rfl) ?y173 ?_
                      case y173 => (go_simp; (try with_reducible rfl))
                      simp only [Act.put, List.setIfInBounds_toArray, List.set_cons_zero, List.set_cons_succ]
                      refine still_val hWS (v := ?v174) (by kernel_rfl) ?y174 ?_
                      case y174 => (go_simp; (try with_reducible rfl))
                      simp only [Act.put, List.setIfInBounds_toArray, List.set_cons_zero, List.set_cons_succ]
                      refine still_val hWS (v := ?v175) (by kernel_rfl) ?y175 ?_
                      case y175 => (go_simp; (try with_reducible rfl))
                      simp only [Act.put, List.setIfInBounds_toArray, List.set_cons_zero, List.set_cons_succ]
                      refine still_val hWS (v := ?v176) (by kernel_rfl) ?y176 ?_
                      case y176 => (go_simp; (try with_reducible rfl))
                      simp only [Act.put, List.setIfInBounds_toArray, List.set_cons_zero, List.set_cons_succ]
                      refine still_val hWS (v := ?v177) (by kernel_rfl) ?y177 ?_
                      case y177 => (go_simp; (try with_reducible rfl))
                      simp only [Act.put, List.setIfInBounds_toArray, List.set_cons_zero, List.set_cons_succ]
                      refine still_val hWS (v := ?v178) (by kernel_rfl) ?y178 ?_
                      case y178 => (go_simp; (try with_reducible rfl))
                      simp only [Act.put, List.setIfInBounds_toArray, List.set_cons_zero, List.set_cons_succ]
                      refine still_val hWS (v := ?v179) (by kernel_rfl) ?y179 ?_
                      case y179 => (go_simp; (try with_reducible rfl))
                      simp only [Act.put, List.setIfInBounds_toArray, List.set_cons_zero, List.set_cons_succ]
                      refine still_val hWS (v := ?v180) (by kernel_rfl) ?y180 ?_
                      case y180 => (go_simp; (try with_reducible rfl))
                      simp only [Act.put, List.setIfInBounds_toArray, List.set_cons_zero, List.set_cons_succ]
                      refine still_val hWS (v := ?v181) (by kernel_rfl) ?y181 ?_
                      case y181 => (go_simp; (try with_reducible rfl))
                      simp only [Act.put, List.setIfInBounds_toArray, List.set_cons_zero, List.set_cons_succ]
                      refine still_val hWS (v := ?v182) (by kernel_rfl) ?y182 ?_
                      case y182 => (go_simp; (try with_reducible rfl))
                      simp only [Act.put, List.setIfInBounds_toArray, List.set_cons_zero, List.set_cons_succ]
                      refine still_val hWS (v := ?v183) (by kernel_rfl) ?y183 ?_
                      case y183 => (go_simp; (try with_reducible rfl))
                      simp only [Act.put, List.setIfInBounds_toArray, List.set_cons_zero, List.set_cons_succ]
                      refine still_val hWS (v := ?v184) (by kernel_rfl) ?y184 ?_
                      case y184 => (go_simp; (try with_reducible rfl))
                      simp only [Act.put, List.setIfInBounds_toArray, List.set_cons_zero, List.set_cons_succ]
                      refine still_val hWS (v := ?v185) (by kernel_rfl) ?y185 ?_
                      case y185 => (go_simp; (try with_reducible rfl))
                      simp only [Act.put, List.setIfInBounds_toArray, List.set_cons_zero, List.set_cons_succ]
                      refine still_val hWS (v := ?v186) (by kernel_rfl) ?y186 ?_
                      case y186 => (go_simp; (try with_reducible rfl))
                      simp only [Act.put, List.setIfInBounds_toArray, List.set_cons_zero, List.set_cons_succ]
                      refine still_val hWS (v := ?v187) (by kernel_rfl) ?y187 ?_
                      case y187 => (go_simp; (try with_reducible rfl))
                      simp only [Act.put, List.setIfInBounds_toArray, List.set_cons_zero, List.set_cons_succ]
                      refine still_val hWS (v := ?v188) (by kernel_rfl) ?y188 ?_
                      case y188 => (go_simp; (try with_reducible rfl))
                      simp only [Act.put, List.setIfInBounds_toArray, List.set_cons_zero, List.set_cons_succ]
                      refine still_val hWS (v := ?v189) (by kernel_rfl) ?y189 ?_
                      case y189 => (go_simp; (try with_reducible rfl))
                      simp only [Act.put, List.setIfInBounds_toArray, List.set_cons_zero, List.set_cons_succ]
                      refine still_val hWS (v := ?v190) (by kernel_rfl) ?y190 ?_
                      case y190 => (go_simp; (try with_reducible rfl))
                      simp only [Act.put, List.setIfInBounds_toArray, List.set_cons_zero, List.set_cons_succ]
                      refine still_val hWS (v := ?v191) (by kernel_rfl) ?y191 ?_
                      case y191 => (go_simp; (try with_reducible rfl))
                      simp only [Act.put, List.setIfInBounds_toArray, List.set_cons_zero, List.set_cons_succ]
                      refine still_val hWS (v := ?v192) (by kernel_rfl) ?y192 ?_
                      case y192 => (go_simp; (try with_reducible rfl))
                      simp only [Act.put, List.setIfInBounds_toArray, List.set_cons_zero, List.set_cons_succ]
                      refine still_val hWS (v := ?v193) (by kernel_rfl) ?y193 ?_
                      case y193 => (go_simp; (try with_reducible rfl))
                      simp only [Act.put, List.setIfInBounds_toArray, List.set_cons_zero, List.set_cons_succ]
                      refine still_skip hWS (by kernel_rfl) ?_
                      simp only [Act.put, List.setIfInBounds_toArray, List.set_cons_zero, List.set_cons_succ]
                      refine still_skip hWS (by kernel_rfl) ?_
                      simp only [Act.put, List.setIfInBounds_toArray, List.set_cons_zero, List.set_cons_succ]
                      refine still_skip hWS (by kernel_rfl) ?_
                      simp only [Act.put, List.setIfInBounds_toArray, List.set_cons_zero, List.set_cons_succ]
                      refine still_val hWS (v := ?v197) (by kernel_rfl) ?y197 ?_
                      case y197 => (go_simp; (try with_reducible rfl))
                      simp only [Act.put, List.setIfInBounds_toArray, List.set_cons_zero, List.set_cons_succ]
                      refine still_val hWS (v := ?v198) (by kernel_rfl) ?y198 ?_
                      case y198 => (go_simp; (try with_reducible rfl))
                      simp only [Act.put, List.setIfInBounds_toArray, List.set_cons_zero, List.set_cons_succ]
                      refine still_end hWS ?_
                      clear hWS WS
                      go_wp2_with fail
                      refine (HSM.out _ (by first | exact Mod.drewN ((Mod.refl None w3).alloc _) _ | exact Mod.drewN (Mod.drewN ((Mod.refl None w3).alloc _) _) _)).mono ?_
                      rintro e w9 ⟨rfl, hp9⟩
                      have HP9 := hid hp9
                      clear hp9 HSM
                      go_wp2_with fail
                      go_roundw
                      case rel => exact ⟨k + 1, S3, s, _, _, _, by omega, by go_num, rfl, HP9.out, HN2.out, HNC.out, by have := HLS.out; omega⟩
                      case measure => simp [intOf]; omega
                  · have HT := hid trivial
                    obtain ⟨b2, o2, rfl, y1, y2⟩ := rd_ent HPL2.out.rd (k := 0) (by simp)
                    have e0 : fn (x :: s) 0 = x := rfl
                    rw [e0, Nat.zero_mul, Nat.add_zero] at y1 y2
                    clear e0 y1 y2
                    have hnp : (0 : Int) < (n : Int) := by have := HN.out; rw [List.length_cons] at this; omega
                    have hnp2 : 0 < n := by omega
                    have hdue : decide (x.2 ≤ du) = false := decide_eq_false hx
                    have HTK := hid (live_take HPL2.out.live du (by have := HLS0.out; omega))
                    rw [show takeL (x :: s) du = (((0, 0), false), x :: s) by simp [takeL, hx]] at HTK
                    unfold Ptr LPost V at HTK
                    go_wp2_with fail
                    refine HTK.out.mono ?_
                    rintro e w3 ⟨S3, rfl, h3, ht3⟩
                    clear hcmp hk1 hk1' hk2 hk2'
                    have hk3 := HPL2.out.kept ht3
                    have hq3 := ht3.mod.blk HQ2.out HNS.out
                    clear z0 z1 z2
                    have z0 := hq3.is (i := 0) rfl
                    have z1 := hq3.is (i := 1) rfl
                    have z2 := hq3.is (i := 2) rfl
                    have hql := hq3.lt
                    obtain ⟨b3, o3, he, y1, y2⟩ := rd_ent hk3.1 (k := 0) (by simp)
                    obtain ⟨rfl, rfl⟩ : b2 = b3 ∧ o2 = o3 := by simpa using he
                    have e0 : fn (x :: s) 0 = x := rfl
                    rw [e0, Nat.zero_mul, Nat.add_zero] at y1 y2
                    clear e0 he
                    have hbl := World.block_lt_of_cell? w3 _ y1
                    have hb3 : ¬ S3 b2 := by
                      rcases hk3.2 with h | ⟨b4, o4, h, h4⟩
                      · cases h
                      · obtain ⟨rfl, rfl⟩ : b2 = b4 ∧ o2 = o4 := by simpa using h
                        exact h4
                    have HPL := hid (⟨h3, hk3.1, .inr ⟨b2, o2, rfl, hb3⟩⟩ : Play w w3 S3 p (x :: s) (some ⟨b2, o2, none⟩))
                    have HLS := hid (show (x :: s).length ≤ k + 1 ∧ k < 300 by have := HLS0.out; omega)
                    have HSM := hid (fun w' (hm : Mod None w3 w') => (same_any w w' S3 p (x :: s) (HPL.out.same hm).live (some ⟨b2, o2, none⟩) c n (HN.out) (HPL.out.same hm).rd (by have := HLS.out; omega)).mono (fun e w9 h => (⟨h.1, (HPL.out.same hm).same h.2.2⟩ : e = .returned (.bool true) ∧ Play w w9 S3 p (x :: s) (some ⟨b2, o2, none⟩))))
                    unfold Ptr at HSM
                    clear h3 ht3 hk3 hq3 HTK hx hb3
                    go_wp2_with fail
                    go_quiet (fail)
                    go_wp2_with fail
                    refine wp_region_still_lit (by kernel_rfl) (by kernel_rfl) ?_
                    change wpStill _ _ (World.drew _) (fun a' => Exit.then _ _ Exit.normal a' (World.drew _)) _ _
                    generalize hWS : wpStill Try.prog _ (World.drew _) _ = WS
                    refine still_val hWS (v := ?v199) (by kernel_rfl) ?y199 ?_
                    case y199 => (go_simp; (try with_reducible rfl))
                    simp only [Act.put, List.setIfInBounds_toArray, List.set_cons_zero, List.set_cons_succ]
                    refine still_val hWS (v := ?v200) (by kernel_rfl) ?y200 ?_
                    case y200 => (go_simp; (try with_reducible rfl))
                    simp only [Act.put, List.setIfInBounds_toArray, List.set_cons_zero, List.set_cons_succ]
                    refine still_val hWS (v := ?v201) (by kernel_rfl) ?y201 ?_
                    case y201 => (go_simp; (try with_reducible rfl))
                    simp only [Act.put, List.setIfInBounds_toArray, List.set_cons_zero, List.set_cons_succ]
                    refine still_val hWS (v := ?v202) (by kernel_rfl) ?y202 ?_
                    case y202 => (go_simp; (try with_reducible rfl))
                    simp only [Act.put, List.setIfInBounds_toArray, List.set_cons_zero, List.set_cons_succ]
                    refine still_val hWS (v := ?v203) (by kernel_rfl) ?y203 ?_
                    case y203 => (go_simp; (try with_reducible rfl))
                    simp only [Act.put, List.setIfInBounds_toArray, List.set_cons_zero, List.set_cons_succ]
                    refine still_val hWS (v := ?v204) (by kernel_rfl) ?y204 ?_
                    case y204 => (go_simp; (try with_reducible rfl))
                    simp only [Act.put, List.setIfInBounds_toArray, List.set_cons_zero, List.set_cons_succ]
                    refine still_skip hWS (by kernel_rfl) ?_
                    simp only [Act.put, List.setIfInBounds_toArray, List.set_cons_zero, List.set_cons_succ]
                    refine still_skip hWS (by kernel_rfl) ?_
                    simp only [Act.put, List.setIfInBounds_toArray, List.set_cons_zero, List.set_cons_succ]
                    refine still_skip hWS (by kernel_rfl) ?_
                    simp only [Act.put, List.setIfInBounds_toArray, List.set_cons_zero, List.set_cons_succ]
                    refine still_skip hWS (by kernel_rfl) ?_
                    simp only [Act.put, List.setIfInBounds_toArray, List.set_cons_zero, List.set_cons_succ]
                    refine still_skip hWS (by kernel_rfl) ?_
                    simp only [Act.put, List.setIfInBounds_toArray, List.set_cons_zero, List.set_cons_succ]
                    refine still_skip hWS (by kernel_rfl) ?_
                    simp only [Act.put, List.setIfInBounds_toArray, List.set_cons_zero, List.set_cons_succ]
                    refine still_skip hWS (by kernel_rfl) ?_
                    simp only [Act.put, List.setIfInBounds_toArray, List.set_cons_zero, List.set_cons_succ]
                    refine still_skip hWS (by kernel_rfl) ?_
                    simp only [Act.put, List.setIfInBounds_toArray, List.set_cons_zero, List.set_cons_succ]
                    refine still_skip hWS (by kernel_rfl) ?_
                    simp only [Act.put, List.setIfInBounds_toArray, List.set_cons_zero, List.set_cons_succ]
                    refine still_skip hWS (by kernel_rfl) ?_
                    simp only [Act.put, List.setIfInBounds_toArray, List.set_cons_zero, List.set_cons_succ]
                    refine still_skip hWS (by kernel_rfl) ?_
                    simp only [Act.put, List.setIfInBounds_toArray, List.set_cons_zero, List.set_cons_succ]
                    refine still_skip hWS (by kernel_rfl) ?_
                    simp only [Act.put, List.setIfInBounds_toArray, List.set_cons_zero, List.set_cons_succ]
                    refine still_skip hWS (by kernel_rfl) ?_
                    simp only [Act.put, List.setIfInBounds_toArray, List.set_cons_zero, List.set_cons_succ]
                    refine still_skip hWS (by kernel_rfl) ?_
                    simp only [Act.put, List.setIfInBounds_toArray, List.set_cons_zero, List.set_cons_succ]
                    refine still_skip hWS (by kernel_rfl) ?_
                    simp only [Act.put, List.setIfInBounds_toArray, List.set_cons_zero, List.set_cons_succ]
                    refine still_skip hWS (by kernel_rfl) ?_
                    simp only [Act.put, List.setIfInBounds_toArray, List.set_cons_zero, List.set_cons_succ]
                    refine still_val hWS (v := ?v221) (by kernel_rfl) ?y221 ?_
                    case y221 => (go_simp; (try with_reducible rfl))
                    simp only [Act.put, List.setIfInBounds_toArray, List.set_cons_zero, List.set_cons_succ]
                    refine still_val hWS (v := ?v222) (by kernel_rfl) ?y222 ?_
                    case y222 => (go_simp; (try with_reducible rfl))
                    simp only [Act.put, List.setIfInBounds_toArray, List.set_cons_zero, List.set_cons_succ]
                    refine still_val hWS (v := ?v223) (by kernel_rfl) ?y223 ?_
                    case y223 => (go_simp; (try with_reducible rfl))
                    simp only [Act.put, List.setIfInBounds_toArray, List.set_cons_zero, List.set_cons_succ]
                    refine still_val hWS (v := ?v224) (by kernel_rfl) ?y224 ?_
                    case y224 => (go_simp; (try with_reducible rfl))
                    simp only [Act.put, List.setIfInBounds_toArray, List.set_cons_zero, List.set_cons_succ]
                    refine still_val hWS (v := ?v225) (by kernel_rfl) ?y225 ?_
                    case y225 => (go_simp; (try with_reducible rfl))
                    simp only [Act.put, List.setIfInBounds_toArray, List.set_cons_zero, List.set_cons_succ]
                    refine still_val hWS (v := ?v226) (by kernel_rfl) ?y226 ?_
                    case y226 => (go_simp; (try with_reducible rfl))
                    simp only [Act.put, List.setIfInBounds_toArray, List.set_cons_zero, List.set_cons_succ]
                    refine still_val hWS (v := ?v227) (by kernel_rfl) ?y227 ?_
                    case y227 => (go_simp; (try with_reducible rfl))
                    simp only [Act.put, List.setIfInBounds_toArray, List.set_cons_zero, List.set_cons_succ]
                    refine still_val hWS (v := ?v228) (by kernel_rfl) ?y228 ?_
                    case y228 => (go_simp; (try with_reducible rfl))
                    simp only [Act.put, List.setIfInBounds_toArray, List.set_cons_zero, List.set_cons_succ]
                    refine still_val hWS (v := ?v229) (by kernel_rfl) ?y229 ?_
                    case y229 => (go_simp; (try with_reducible rfl))
                    simp only [Act.put, List.setIfInBounds_toArray, List.set_cons_zero, List.set_cons_succ]
                    refine still_val hWS (v := ?v230) (by kernel_rfl) ?y230 ?_
                    case y230 => (go_simp; (try with_reducible rfl))
                    simp only [Act.put, List.setIfInBounds_toArray, List.set_cons_zero, List.set_cons_succ]
                    refine still_val hWS (v := ?v231) (by kernel_rfl) ?y231 ?_
                    case y231 => (go_simp; (try with_reducible rfl))
                    simp only [Act.put, List.setIfInBounds_toArray, List.set_cons_zero, List.set_cons_succ]
                    refine still_end hWS ?_
                    clear hWS WS
                    go_wp2_with fail
                    refine (HSM.out _ (by first | exact Mod.drewN ((Mod.refl None w3).alloc _) _ | exact Mod.drewN (Mod.drewN ((Mod.refl None w3).alloc _) _) _)).mono ?_
                    rintro e w9 ⟨rfl, hp9⟩
                    have HP9 := hid hp9
                    clear hp9 HSM
                    go_wp2_with fail
                    go_roundw
                    case rel => exact ⟨k + 1, S3, (x :: s), _, _, _, by omega, by go_num, rfl, HP9.out, HN.out, HC.out, by have := HLS.out; omega⟩
                    case measure => simp [intOf]; omega
              · have hk3' : (kk == 3) = false := by simpa using hk3
                clear hk1 hk2 hk3
                go_wp2_with fail
                refine (HDr0.out _).mono ?_
                rintro e w2 ⟨da, dc, rfl, hdr⟩
                have hm2 := ((Mod.refl None wr).alloc (.cells #[.int .i64 kk, .int .i64 id, .int .i64 du] 40)).trans hdr.mod
                have hq2 := hdr.mod.blk (Blk.new wr 40 #[.int .i64 kk, .int .i64 id, .int .i64 du]) (fun h => h)
                have HPL2 := hid (hrel.out.1.same hm2)
                have HQ2 := hid hq2
                have HNS := hid (show ¬ S wr.heap.size from fun h => by have := hrel.out.1.live.ag.lt _ h; omega)
                have HN := hid hrel.out.2.1
                have HC := hid hrel.out.2.2.1
                have z0 := hq2.is (i := 0) rfl
                have z1 := hq2.is (i := 1) rfl
                have z2 := hq2.is (i := 2) rfl
                clear hdr hm2 hq2 hrel HDr0 c1 c2 c3
                have HPL := hid HPL2.out
                have HLS := hid (show s.length ≤ k + 1 by have := HLS0.out; omega)
                have HSM := hid (same_any w w2 S p s HPL.out.live la c n (HN.out) HPL.out.rd (by have := HLS.out; omega))
                unfold Ptr SamePost at HSM
                go_wp2_with fail
                refine HSM.out.mono ?_
                rintro e w9 ⟨rfl, _, hm9⟩
                have HP9 := hid (HPL.out.same hm9)
                clear hm9 HSM HPL
                go_wp2_with fail
                go_roundw
                case rel => exact ⟨k + 1, S, s, la, n, c, by omega, by go_num, rfl, HP9.out, HN.out, HC.out, by have := HLS.out; omega⟩
                case measure => simp [intOf]; omega
      · obtain rfl : k = q.length := by omega
        have HE := hid (walk_of hrel.out.1.live.mod)
        clear hrel
        go_wp2_with fail
        go_ret
        exact HE.out
  · have hl' : (300 : Int) < (q.length : Int) := by omega
    have HA2 := hid (fun w => awake_any w)
    go_wp2_with fail
    refine HA.out.mono ?_
    rintro e w2 ⟨rfl, hm⟩
    go_wp2_with fail
    refine (HA2.out w2).mono ?_
    rintro e w3 ⟨rfl, hm3⟩
    have HE := hid (walk_of ((HL.out.mod.trans hm).trans hm3))
    clear hm hm3 HL
    go_wp2_with fail
    go_ret
    exact HE.out
end Go.Proofs.Ytekobigoekfckaa

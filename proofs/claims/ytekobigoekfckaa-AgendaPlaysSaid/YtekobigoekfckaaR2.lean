/- The document's Put. -/
import Derived.Test.YtekobigoekfckaaR1
namespace Go.Proofs.Ytekobigoekfckaa
open Go.RowKit

theorem insL_none {l : List Ent} {e : Ent} (h : l.any (before e) = false) : insL l e = l ++ [e] := by
  induction l with
  | nil => rfl
  | cons x l ih =>
    rw [List.any_cons, Bool.or_eq_false_iff] at h
    unfold insL
    rw [h.1, if_neg (by simp), ih h.2]; rfl
theorem insL_snoc_new {l : List Ent} {e y : Ent} (h : l.any (before e) = false) (hy : before e y = true) : insL (l ++ [y]) e = l ++ [e] ++ [y] := by
  induction l with
  | nil => unfold insL; simp [hy]
  | cons x l ih =>
    rw [List.any_cons, Bool.or_eq_false_iff] at h
    rw [List.cons_append]
    unfold insL
    rw [h.1, if_neg (by simp), ih h.2]; rfl
theorem insL_snoc_laid {l : List Ent} {e y : Ent} (h : l.any (before e) = true) : insL (l ++ [y]) e = insL l e ++ [y] := by
  induction l with
  | nil => simp at h
  | cons x l ih =>
    rw [List.cons_append]
    unfold insL
    by_cases hx : before e x = true
    · rw [if_pos hx, if_pos hx]; rfl
    · rw [if_neg hx, if_neg hx]
      have h2 : l.any (before e) = true := by
        rw [List.any_cons, Bool.or_eq_true] at h
        rcases h with h | h
        · exact absurd h hx
        · exact h
      rw [ih h2]; rfl
/-- what has been laid of the first entries -/
def insP (l : List Ent) (e : Ent) : List Ent := if l.any (before e) = true then insL l e else l
theorem insP_laid {l : List Ent} {e y : Ent} (h : l.any (before e) = true) : insP (l ++ [y]) e = insP l e ++ [y] ∧ (l ++ [y]).any (before e) = true := by
  have h2 : (l ++ [y]).any (before e) = true := by rw [List.any_append, h]; rfl
  exact ⟨by unfold insP; rw [if_pos h2, if_pos h, insL_snoc_laid h], h2⟩
theorem insP_new {l : List Ent} {e y : Ent} (h : l.any (before e) = false) (hy : before e y = true) : insP (l ++ [y]) e = insP l e ++ [e] ++ [y] ∧ (l ++ [y]).any (before e) = true := by
  have h2 : (l ++ [y]).any (before e) = true := by rw [List.any_append]; simp [hy]
  exact ⟨by unfold insP; rw [if_pos h2, if_neg (by simp [h]), insL_snoc_new h hy], h2⟩
theorem insP_not {l : List Ent} {e y : Ent} (h : l.any (before e) = false) (hy : before e y = false) : insP (l ++ [y]) e = insP l e ++ [y] ∧ (l ++ [y]).any (before e) = false := by
  have h2 : (l ++ [y]).any (before e) = false := by rw [List.any_append, h]; simp [hy]
  exact ⟨by unfold insP; rw [if_neg (by simp [h2]), if_neg (by simp [h])], h2⟩
theorem insP_le (l : List Ent) (e : Ent) : (insP l e).length ≤ l.length + 1 := by
  unfold insP
  split
  · rw [(insL_perm l e).length_eq]; simp
  · omega
theorem Mod.drewN {S : Nat → Prop} {a b : World} (h : Mod S a b) (n : Nat) : Mod S a (b.drewN n) := ⟨h.os, h.tape, h.output, h.size, h.block⟩
theorem Mod.cell0 {a b : World} (h : Mod None a b) {p : Addr} {v : Value} (hc : a.cell? p = some v) : b.cell? p = some v := by
  rw [h.cell (World.block_lt_of_cell? a _ hc) (fun h => h)]; exact hc
theorem RefRel.from {s : List Ent} {w w2 wr : World} {v : Value} (hm : Mod None w w2) (h : RefRel s w2 wr v) : RefRel s w wr v :=
  ⟨h.own, hm.trans h.mod, fun g hg => by have := h.new g hg; have := hm.size; omega⟩
set_option maxRecDepth 100000 in
set_option maxHeartbeats 6400000 in
theorem refput_any (w : World) (a : Option Addr) (c n : Nat) (l : List Ent) (hn : n = l.length) (hr : RdV w a (entC l)) (e : Ent) (hfew : l.length ≤ 100000) :
    Calls Try.prog 9 #[.slice a n c, V e] w (RefPost (putL l e) w) := by
  have HD := hid (fun o => refdrop_any (w.alloc o) a c n l hn (((Mod.refl None w).alloc o).rdv hr (fun _ _ h => h)) e.1 hfew)
  have HE := hid ((Blk.new w 29 #[.int .i64 e.1, .int .i64 e.2]))
  have HP := hid (show putL l e = insL (dropL l e.1) e from rfl)
  have HLE := hid (show (dropL l e.1).length ≤ 100000 by have := dropL_le l e.1; omega)
  have hd5 : (dropL l e.1).length ≤ 100000 := HLE.out
  clear hr hn hfew
  generalize dropL l e.1 = d at *
  unfold V
  go_enter Try.func9, Try.ntmps9
  go_wp2_with fail
  refine (HD.out _).mono ?_
  rintro en w2 ⟨da, dc, rfl, hdr⟩
  have hz := hdr.mod.blk HE.out (fun h => h)
  have hm0 := ((Mod.refl None w).alloc (.cells #[.int .i64 e.1, .int .i64 e.2] 29)).trans hdr.mod
  have HZ := hid hz
  have HM := hid hm0
  have HR := hid hdr.rdv.1
  have e1 := hz.is (i := 0) rfl
  clear hz hm0 hdr HD HE
  go_wp2_with fail
  go_loopw [5, 6, 7] (fun o b i wr => ∃ (k : Nat) (oa : Option Addr) (on oc : Nat), k ≤ d.length ∧ i = .int .i64 k ∧ b = .bool ((d.take k).any (before e)) ∧ o = .slice oa on oc ∧ Hid (RefRel (insP (d.take k) e) w2 wr (.slice oa on oc))) (fun _ _ i _ => d.length - (intOf i).toNat)
  case atStart => exact ⟨0, none, 0, 0, by omega, rfl, rfl, rfl, RefRel.start w2⟩
  case round =>
    obtain ⟨k, oa, on, oc, hk, rfl, rfl, rfl, hrel⟩ := hrel
    by_cases hlt : k < d.length
    · have hlt' : (k : Int) < (d.length : Int) := by omega
      obtain ⟨b, o, rfl, c1, c2⟩ := rd_ent HR.out hlt
      have HTS := hid (fn_take_succ d k hlt)
      have HLE2 := hid (show (insP (d.take k) e).length ≤ 100001 by have := insP_le (d.take k) e; rw [List.length_take] at this; have := HLE.out; omega)
      have HCE := hid (fun (w4 : World) (hm : Mod None w2 w4) => And.intro (hm.cell0 (HZ.out.is (i := 0) rfl)) (And.intro (hm.cell0 (HZ.out.is (i := 1) rfl)) (And.intro (hm.cell0 c1) (hm.cell0 c2))))
      clear c1 c2
      generalize fn d k = x at *
      obtain ⟨z0, z1, c1, c2⟩ := HCE.out wr hrel.out.mod
      cases hl : (d.take k).any (before e) with
      | true =>
        obtain ⟨hp1, hp2⟩ := insP_laid (y := x) hl
        rw [← HTS.out] at hp1 hp2
        have HP1 := hid hp1
        have HP2 := hid hp2
        clear hl hp1 hp2
        go_wp2_with fail
        go_quiet (fail)
        go_wp2_with (at_builtin; first | (refine wpList_plain rfl (fun K hK => wp_put_e (.tmp 32) (.tmp 37) rfl (e := x) (hrel.out.same ((Mod.drewN (Mod.refl None wr) _).alloc _)) rfl rfl (lit_rdv (wr.drewN _) _ _ rfl _ rfl _) (by have := HLE2.out; omega) (on + 1) rfl (fun va vc w' h2 => hK _ _ ?_)); have HR3 := hid h2.out; clear h2))
        go_roundw
        case rel => exact ⟨k + 1, _, _, _, by omega, by go_num, by rw [HP2.out], rfl, by show RefRel _ _ _ _; rw [HP1.out]; exact HR3.out⟩
        case measure => simp [intOf]; omega
      | false =>
        cases hb : before e x with
        | true =>
          obtain ⟨hp1, hp2⟩ := insP_new (y := x) hl hb
          rw [← HTS.out] at hp1 hp2
          have HP1 := hid hp1
          have HP2 := hid hp2
          have HB := hid (refbefore_any wr.drew e x)
          unfold BPost at HB
          rw [hb] at HB
          clear hl hp1 hp2 hb
          go_wp2_with fail
          refine wp_region_still_tail 8 (by kernel_rfl) (by kernel_rfl) ?_
          change wpStill _ _ (World.drew _) (fun a' => wpList _ _ _ _ a' (World.drew _)) _ _
          simp only [List.take_succ_cons, List.take_zero, List.drop_succ_cons, List.drop_zero]
          repeat still_step
          refine wpStill_nil ?_
          go_wp2_with fail
          refine HB.out.mono ?_
          rintro en w3 ⟨rfl, hm⟩
          have hr3 := (hrel.out.same (Mod.drew (Mod.refl None wr))).same hm
          have HR2 := hid hr3
          clear z0 z1 c1 c2
          obtain ⟨z0, z1, c1, c2⟩ := HCE.out w3 hr3.mod
          clear hm hr3 hrel HB
          go_wp2_with (at_builtin; first
            | (refine wpList_plain rfl (fun K hK => wp_put_e (.tmp 28) (.tmp 30) rfl (e := e) (HR2.out.same ((Mod.refl None w3).alloc _)) rfl rfl (lit_rdv w3 _ _ rfl _ rfl _) (by have := HLE2.out; omega) (on + 1) rfl (fun va vc w' h2 => hK _ _ ?_)); have HR3 := hid h2.out; clear h2; obtain ⟨y0, y1, d1, d2⟩ := HCE.out _ HR3.out.mod)
            | (refine wpList_plain rfl (fun K hK => wp_put_e (.tmp 32) (.tmp 37) rfl (e := x) (HR3.out.same ((Mod.refl None _).alloc _)) rfl rfl (lit_rdv _ _ _ rfl _ rfl _) (by rw [List.length_append]; have := HLE2.out; simp; omega) (on + 1 + 1) rfl (fun va vc w' h2 => hK _ _ ?_)); have HR4 := hid h2.out; clear h2))
          go_roundw
          case rel => exact ⟨k + 1, _, _, _, by omega, by go_num, by rw [HP2.out], rfl, by show RefRel _ _ _ _; rw [HP1.out]; exact HR4.out⟩
          case measure => simp [intOf]; omega
        | false =>
          obtain ⟨hp1, hp2⟩ := insP_not (y := x) hl hb
          rw [← HTS.out] at hp1 hp2
          have HP1 := hid hp1
          have HP2 := hid hp2
          have HB := hid (refbefore_any wr.drew e x)
          unfold BPost at HB
          rw [hb] at HB
          clear hl hp1 hp2 hb
          go_wp2_with fail
          refine wp_region_still_tail 8 (by kernel_rfl) (by kernel_rfl) ?_
          change wpStill _ _ (World.drew _) (fun a' => wpList _ _ _ _ a' (World.drew _)) _ _
          simp only [List.take_succ_cons, List.take_zero, List.drop_succ_cons, List.drop_zero]
          repeat still_step
          refine wpStill_nil ?_
          go_wp2_with fail
          refine HB.out.mono ?_
          rintro en w3 ⟨rfl, hm⟩
          have hr3 := (hrel.out.same (Mod.drew (Mod.refl None wr))).same hm
          have HR2 := hid hr3
          clear z0 z1 c1 c2
          obtain ⟨z0, z1, c1, c2⟩ := HCE.out w3 hr3.mod
          clear hm hr3 hrel HB
          go_wp2_with (at_builtin; first
            | (refine wpList_plain rfl (fun K hK => wp_put_e (.tmp 32) (.tmp 37) rfl (e := x) (HR2.out.same ((Mod.refl None w3).alloc _)) rfl rfl (lit_rdv w3 _ _ rfl _ rfl _) (by have := HLE2.out; omega) (on + 1) rfl (fun va vc w' h2 => hK _ _ ?_)); have HR4 := hid h2.out; clear h2))
          go_roundw
          case rel => exact ⟨k + 1, _, _, _, by omega, by go_num, by rw [HP2.out], rfl, by show RefRel _ _ _ _; rw [HP1.out]; exact HR4.out⟩
          case measure => simp [intOf]; omega
    · obtain rfl : k = d.length := by omega
      rw [List.take_length] at hrel
      have HIN := hid (show ∀ h : d.any (before e) = true, insP d e = putL l e from fun h => by unfold insP; rw [if_pos h, HP.out])
      have HIN2 := hid (show ∀ h : d.any (before e) = false, insP d e ++ [e] = putL l e from fun h => by unfold insP; rw [if_neg (by simp [h]), HP.out, insL_none h])
      rw [List.take_length]
      have HLE2 := hid (show (insP d e).length ≤ 100001 by have := insP_le d e; have := HLE.out; omega)
      have hzr := hrel.out.mod.blk HZ.out (fun h => h)
      have z0 := hzr.is (i := 0) rfl
      have z1 := hzr.is (i := 1) rfl
      have hlt' : ¬ ((d.length : Int) < (d.length : Int)) := by omega
      cases hl : d.any (before e) with
      | true =>
        have HQ := hid (HIN.out hl)
        have HE := hid (show RefPost (putL l e) w (.returned (.slice oa on oc)) wr by
          have := (hrel.out.from HM.out)
          rw [HQ.out] at this
          have hn := this.rdv.2
          subst hn
          exact ⟨oa, oc, rfl, this⟩)
        clear hl hzr hrel hlt
        go_wp2_with fail
        go_ret
        exact HE.out
      | false =>
        have HQ := hid (HIN2.out hl)
        clear hl hzr hlt
        go_wp2_with (at_builtin; first
          | (refine wpList_plain rfl (fun K hK => wp_put_e (.tmp 41) (.tmp 43) rfl (e := e) (hrel.out.same ((Mod.refl None wr).alloc _)) rfl rfl (lit_rdv wr _ _ rfl _ rfl _) (by have := HLE2.out; omega) (on + 1) rfl (fun va vc w' h2 => hK _ _ ?_)); have HR4 := hid h2.out; clear h2))
        go_ret
        have := (HR4.out.from HM.out)
        rw [HQ.out] at this
        have hn := this.rdv.2
        refine ⟨_, _, ?_, hn ▸ this⟩
        rw [← hn]; rfl
end Go.Proofs.Ytekobigoekfckaa

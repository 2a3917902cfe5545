/- AgendaKeeps, walked. -/
import Derived.Test.YtekobigoekfckaaT3
namespace Go.Proofs.Ytekobigoekfckaa
open Go.RowKit

set_option maxHeartbeats 6400000 in
theorem AgendaKeeps_walk (w : World) (v0 : Value) (l : List Ent) (w0 : VEnts w v0 l) : Calls Try.prog 4 #[v0] w (Walk w) := by
  obtain ⟨a, c, rfl, _, hr, hbig⟩ := w0
  have HR := hid hr
  have HB := hid hbig
  have HN := hid (live_new w w (Mod.refl _ _))
  unfold LNew Ptr at HN
  clear hr hbig
  go_enter Try.func4, Try.ntmps4
  go_wp2_with fail
  refine HN.out.mono ?_
  rintro e w1 ⟨p, S, rfl, h1, _, _⟩
  have HA := hid (awake_any w1)
  have HL := hid h1
  clear HN h1
  by_cases hl : l.length ≤ 300
  · have hl' : ¬ (300 : Int) < (l.length : Int) := by omega
    go_wp2_with fail
    refine HA.out.mono ?_
    rintro e w2 ⟨rfl, hm⟩
    have HB0 := hid (show Both w w2 S p [] (.slice none 0 0) from ⟨(RefRel.start w2).from (HL.out.mod.trans hm), HL.out.step hm, fun g hg => by cases hg⟩)
    clear hm HA HL
    go_wp2_with fail
    go_loopw [4, 5] (fun o i wr => ∃ (k : Nat) (S : Nat → Prop) (oa : Option Addr) (on oc : Nat), k ≤ l.length ∧ i = .int .i64 k ∧ o = .slice oa on oc ∧ Hid (Both w wr S p (build (l.take k)) (.slice oa on oc))) (fun _ i _ => l.length - (intOf i).toNat)
    case atStart => exact ⟨0, S, none, 0, 0, by omega, rfl, rfl, HB0.out⟩
    case round =>
      obtain ⟨k, S1, oa, on, oc, hk, rfl, rfl, hrel⟩ := hrel
      clear HB0
      by_cases hlt : k < l.length
      · have hlt' : (k : Int) < (l.length : Int) := by omega
        obtain ⟨b, o, rfl, c1, c2⟩ := rd_ent (hrel.out.live.mod.rdv HR.out (fun _ _ h => h)) hlt
        have HBX := hid (HB.out _ (fn_mem hlt))
        have HS := hid (show build (l.take (k + 1)) = putL (build (l.take k)) (fn l k) by rw [fn_take_succ l k hlt, build_snoc])
        have HLE := hid (show (build (l.take k)).length ≤ 300 by have := build_len (l.take k); rw [List.length_take] at this; omega)
        generalize fn l k = x at *
        have HP := hid (refput_any wr oa oc on (build (l.take k)) hrel.out.ref.rdv.2 hrel.out.ref.rdv.1 x (by have := HLE.out; omega))
        unfold V at HP
        go_wp2_with fail
        refine HP.out.mono ?_
        rintro e w3 ⟨oa2, oc2, rfl, h3⟩
        obtain ⟨hr3, hl3, ho3⟩ := hrel.out.refput h3
        have HR3 := hid hr3
        have HL3 := hid hl3
        have HO3 := hid ho3
        have d1 := h3.mod.cell0 c1
        have d2 := h3.mod.cell0 c2
        have HPut := hid (live_put hl3.drew x HBX.out (by have := HLE.out; omega))
        unfold Ptr at HPut
        clear c1 c2 h3 hr3 hl3 ho3 HP hrel
        go_wp2_with fail
        refine wp_region_still_tail 11 (by kernel_rfl) (by kernel_rfl) ?_
        change wpStill _ _ (World.drew _) (fun a' => wpList _ _ _ _ a' (World.drew _)) _ _
        simp only [List.take_succ_cons, List.take_zero, List.drop_succ_cons, List.drop_zero]
        repeat still_step
        refine wpStill_nil ?_
        go_wp2_with fail
        refine HPut.out.mono ?_
        rintro e w4 ⟨S4, rfl, h4, ht4⟩
        have HB4 := hid (Both.turn (HR3.out.same (Mod.refl None w3).drew) HO3.out h4 ht4)
        clear h4 ht4 HPut HR3 HL3 HO3 d1 d2
        go_wp2_with fail
        go_roundw
        case rel => exact ⟨k + 1, S4, oa2, _, oc2, by omega, by go_num, rfl, by show Both _ _ _ _ _ _; rw [HS.out]; exact HB4.out⟩
        case measure => simp [intOf]; omega
      · obtain rfl : k = l.length := by omega
        rw [List.take_length] at hrel
        have HLE := hid (show (build l).length ≤ 300 by have := build_len l; omega)
        generalize build l = s at *
        have HLI := hid (live_list hrel.out.live (by have := HLE.out; omega))
        unfold Ptr at HLI
        go_wp2_with fail
        refine HLI.out.mono ?_
        rintro e w3 ⟨la, lc, rfl, hrow, h3, hm3⟩
        obtain ⟨N0, hN0⟩ : ∃ N, N = wr.heap.size := ⟨_, rfl⟩
        rw [← hN0] at hrow
        have HW := hid (show s = [] ∨ ∃ g cs, la = some ⟨g, 0, none⟩ ∧ w.heap.size ≤ g ∧ N0 ≤ g ∧ Blk w3 g 36 cs ∧ s.length * 2 ≤ cs.length by
          rcases hrow with h | ⟨g, rest, rfl, hg, hb⟩
          · exact .inl h
          · exact .inr ⟨g, _, rfl, by have := hrel.out.live.mod.size; omega, hg, hb, by rw [List.length_append, entC_length]; omega⟩)
        have HB3 := hid (hrel.out.same hm3)
        have HSL := hid (fun k (h : S1 k) => show k < N0 by rw [hN0]; exact hrel.out.live.ag.lt k h)
        have HVL := hid (fun g (h : (Value.slice oa on oc).ownBlock = some g) => show g < N0 by rw [hN0]; exact (World.ownsRow.lt hrel.out.ref.own g h).2)
        clear hrow h3 hm3 hrel HLI hN0
        go_wp2_with fail
        go_loopw [7] (fun i w4 => ∃ (k : Nat), k ≤ s.length ∧ i = .int .i64 k ∧ Hid (Both w w4 S1 p s (.slice oa on oc) ∧ (s = [] ∨ ∃ g cs, la = some ⟨g, 0, none⟩ ∧ w.heap.size ≤ g ∧ N0 ≤ g ∧ Blk w4 g 36 cs ∧ s.length * 2 ≤ cs.length))) (fun i _ => s.length - (intOf i).toNat)
        case atStart => exact ⟨0, by omega, rfl, HB3.out, HW.out⟩
        case round =>
          obtain ⟨k, hk, rfl, hrel⟩ := hrel
          clear HB3 HW
          by_cases hlt : k < s.length
          · have hlt' : (k : Int) < (s.length : Int) := by omega
            obtain ⟨hb, h | ⟨g, cs, rfl, hg, hg2, hblk, hcl⟩⟩ := hrel.out
            · subst h; simp at hlt
            have hsle := HLE.out
            have hf := hblk.free (k * 2 + 1)
            have hc := hblk.cellAt (k * 2 + 1) (by omega)
            have hm : ∀ v, Mod (fun j => j = g) wr (wr.setCell ⟨g, k * 2 + 1, none⟩ v) := fun v => Mod.set (S := fun j => j = g) (Mod.refl _ _) (.inl rfl) _
            have HN := hid (fun v => show Both w (wr.setCell ⟨g, k * 2 + 1, none⟩ v) S1 p s (.slice oa on oc) ∧ (s = [] ∨ ∃ g' cs, (some ⟨g, 0, none⟩ : Option Addr) = some ⟨g', 0, none⟩ ∧ w.heap.size ≤ g' ∧ N0 ≤ g' ∧ Blk (wr.setCell ⟨g, k * 2 + 1, none⟩ v) g' 36 cs ∧ s.length * 2 ≤ cs.length) from
              ⟨hb.aside (hm v) (fun j hj e => by have := HSL.out j hj; omega) (fun j hj e => by have := HVL.out j hj; omega) (fun j e => by omega), .inr ⟨g, _, rfl, hg, hg2, hblk.set _ v, by rw [List.length_set]; exact hcl⟩⟩)
            clear hb hblk hm hrel
            go_wp2_with fail
            go_roundw
            case rel => exact ⟨k + 1, by omega, by go_num, HN.out _⟩
            case measure => simp [intOf]; omega
          · obtain rfl : k = s.length := by omega
            obtain ⟨hb, _⟩ := hrel.out
            have HSM := hid (same_any w _ S1 p s hb.live oa oc on hb.ref.rdv.2 hb.ref.rdv.1 (by have := HLE.out; omega))
            unfold Ptr at HSM
            clear hb hrel
            go_wp2_with fail
            refine HSM.out.mono ?_
            rintro e w5 ⟨rfl, h5, _⟩
            have HE := hid (walk_of h5.mod)
            clear h5
            go_wp2_with fail
            go_ret
            exact HE.out
  · have hl' : (300 : Int) < (l.length : Int) := by omega
    have HA2 := hid (fun w => awake_any w)
    go_wp2_with fail
    refine HA.out.mono ?_
    rintro e w2 ⟨rfl, hm⟩
    go_wp2_with fail
    refine (HA2.out w2).mono ?_
    rintro e w3 ⟨rfl, hm3⟩
    have HE := hid (walk_of ((HL.out.mod.trans hm).trans hm3))
    clear hm hm3 HL
    go_wp2_with fail
    go_ret
    exact HE.out
end Go.Proofs.Ytekobigoekfckaa

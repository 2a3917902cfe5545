/- AgendaOrder, walked. -/
import Derived.Test.YtekobigoekfckaaT4
namespace Go.Proofs.Ytekobigoekfckaa
open Go.RowKit

theorem AgS.srt {w : World} {S : Nat → Prop} {p : Nat} {s : List Ent} (h : AgS w S p s) : s.Pairwise le := by
  obtain ⟨l, _, _, _, hs⟩ := h; exact hs
/-- how many are due -/
def late (now : Int) (s : List Ent) : Nat := (s.filter (fun e => decide (e.2 ≤ now))).length
theorem late_snoc (now : Int) (s : List Ent) (x : Ent) : late now (s ++ [x]) = if x.2 ≤ now then late now s + 1 else late now s := by
  unfold late
  rw [List.filter_append]
  by_cases h : x.2 ≤ now
  · rw [if_pos h, List.filter_cons_of_pos (by simpa using h)]; simp
  · rw [if_neg h, List.filter_cons_of_neg (by simpa using h)]; simp
theorem late_le (now : Int) (s : List Ent) : late now s ≤ s.length := List.length_filter_le _ _
theorem late_spec (now : Int) : ∀ (s : List Ent), s.Pairwise le → (∀ i, i < late now s → (fn s i).2 ≤ now) ∧ (∀ i, late now s ≤ i → i < s.length → now < (fn s i).2)
  | [], _ => ⟨fun i h => by simp [late] at h, fun i _ h => by simp at h⟩
  | x :: s, hs => by
    obtain ⟨h1, h2⟩ := late_spec now s hs.of_cons
    by_cases hx : x.2 ≤ now
    · have e : late now (x :: s) = late now s + 1 := by
        unfold late; rw [List.filter_cons_of_pos (by simpa using hx), List.length_cons]
      rw [e]
      refine ⟨fun i hi => ?_, fun i hi hl => ?_⟩
      · cases i with
        | zero => exact hx
        | succ i => exact h1 i (by omega)
      · cases i with
        | zero => omega
        | succ i => exact h2 i (by omega) (by simpa using hl)
    · have hall : ∀ y ∈ s, now < y.2 := fun y hy => by
        have := List.rel_of_pairwise_cons hs hy
        rw [le_iff] at this; omega
      have e : late now (x :: s) = 0 := by
        unfold late
        rw [List.length_eq_zero_iff, List.filter_eq_nil_iff]
        intro y hy
        rcases List.mem_cons.1 hy with rfl | hy
        · simpa using hx
        · have := hall y hy; simp; omega
      rw [e]
      refine ⟨fun i hi => by omega, fun i _ hl => ?_⟩
      cases i with
      | zero => show now < x.2; omega
      | succ i =>
        have hl' : i < s.length := by simpa using hl
        have : fn (x :: s) (i + 1) = fn s i := by simp [fn]
        rw [this, fn_at hl']; exact hall _ (List.getElem_mem hl')
theorem fn_drop (s : List Ent) (k : Nat) (h : k < s.length) : s.drop k = fn s k :: s.drop (k + 1) := by
  rw [List.drop_eq_getElem_cons h, fn_at h]
theorem before_next {s : List Ent} (hs : s.Pairwise le) (hu : s.Pairwise (fun x y => x.1 ≠ y.1)) {k : Nat} (h0 : 0 < k) (h : k < s.length) : before (fn s (k - 1)) (fn s k) = true := by
  have h1 := List.pairwise_iff_getElem.1 hs (k - 1) k (by omega) h (by omega)
  have h2 := List.pairwise_iff_getElem.1 hu (k - 1) k (by omega) h (by omega)
  rw [fn_at (by omega), fn_at h, before_iff]
  rw [le_iff] at h1
  omega
theorem take_due {s : List Ent} {now : Int} {k : Nat} (h : k < s.length) (hd : (fn s k).2 ≤ now) : takeL (s.drop k) now = ((fn s k, true), s.drop (k + 1)) := by
  rw [fn_drop s k h]; simp [takeL, hd]
theorem take_none {s : List Ent} (hs : s.Pairwise le) (now : Int) : takeL (s.drop (late now s)) now = (((0, 0), false), s.drop (late now s)) := by
  by_cases h : late now s < s.length
  · have := (late_spec now s hs).2 _ (Nat.le_refl _) h
    rw [fn_drop s _ h]
    simp only [takeL]
    rw [if_neg (by omega)]
  · rw [List.drop_of_length_le (by omega)]; rfl
def dropAll (s : List Ent) (ds : List Int) : List Ent := ds.foldl dropL s
theorem dropAll_succ (s : List Ent) (ds : List Int) (k : Nat) (h : k < ds.length) : dropAll s (ds.take (k + 1)) = dropL (dropAll s (ds.take k)) ds[k] := by
  have e : ds.take (k + 1) = ds.take k ++ [ds[k]] := by rw [List.take_add_one, List.getElem?_eq_getElem h]; rfl
  unfold dropAll
  rw [e, List.foldl_append]; rfl
theorem dropAll_len (ds : List Int) : ∀ (s : List Ent), (dropAll s ds).length ≤ s.length := by
  induction ds with
  | nil => intro s; exact Nat.le_refl _
  | cons x ds ih => intro s; exact Nat.le_trans (ih _) (dropL_le s x)
/-- where the row that List told lies, beside the agenda -/
def LaOk (wr : World) (S : Nat → Prop) (a : Option Addr) (s : List Ent) : Prop := s = [] ∨ ∃ g rest, a = some ⟨g, 0, none⟩ ∧ ¬ S g ∧ Blk wr g 36 (entC s ++ rest)
theorem LaOk.turn {wr w2 : World} {S S' : Nat → Prop} {a : Option Addr} {s : List Ent} (h : LaOk wr S a s) (t : Turn S S' wr w2) : LaOk w2 S' a s := by
  rcases h with h | ⟨g, rest, rfl, hg, hb⟩
  · exact .inl h
  · exact .inr ⟨g, rest, rfl, fun h => hg (t.old g hb.lt h), t.mod.blk hb hg⟩
theorem LaOk.same {wr w2 : World} {S : Nat → Prop} {a : Option Addr} {s : List Ent} (h : LaOk wr S a s) (hm : Mod None wr w2) : LaOk w2 S a s := by
  rcases h with h | ⟨g, rest, rfl, hg, hb⟩
  · exact .inl h
  · exact .inr ⟨g, rest, rfl, hg, hm.blk hb (fun h => h)⟩
/-- the loop that takes: the agenda, the last entry's own cells, the row -/
structure Taking (w wr : World) (S : Nat → Prop) (p q : Nat) (la : Option Addr) (s : List Ent) (k : Nat) : Prop where
  live : Live w wr S p (s.drop k)
  row : LaOk wr S la s
  off : ¬ S q
  new : w.heap.size ≤ q
  last : Blk wr q 36 [.int .i64 (if k = 0 then (0, 0) else fn s (k - 1)).1, .int .i64 (if k = 0 then (0, 0) else fn s (k - 1)).2]
  laq : s = [] ∨ la ≠ some ⟨q, 0, none⟩
theorem Taking.same {w wr w2 : World} {S : Nat → Prop} {p q : Nat} {la : Option Addr} {s : List Ent} {k : Nat} (h : Taking w wr S p q la s k) (hm : Mod None wr w2) : Taking w w2 S p q la s k :=
  ⟨h.live.step hm, h.row.same hm, h.off, h.new, hm.blk h.last (fun h => h), h.laq⟩
/-- behind a Take, before the last entry is set -/
structure Took (w wr : World) (S : Nat → Prop) (p q : Nat) (la : Option Addr) (s : List Ent) (k : Nat) : Prop where
  live : Live w wr S p (s.drop (k + 1))
  row : LaOk wr S la s
  off : ¬ S q
  new : w.heap.size ≤ q
  last : Blk wr q 36 [.int .i64 (if k = 0 then (0, 0) else fn s (k - 1)).1, .int .i64 (if k = 0 then (0, 0) else fn s (k - 1)).2]
  laq : s = [] ∨ la ≠ some ⟨q, 0, none⟩
theorem Took.same {w wr w2 : World} {S : Nat → Prop} {p q : Nat} {la : Option Addr} {s : List Ent} {k : Nat} (h : Took w wr S p q la s k) (hm : Mod None wr w2) : Took w w2 S p q la s k :=
  ⟨h.live.step hm, h.row.same hm, h.off, h.new, hm.blk h.last (fun h => h), h.laq⟩
theorem Taking.took {w wr w2 : World} {S S' : Nat → Prop} {p q : Nat} {la : Option Addr} {s : List Ent} {k : Nat} (h : Taking w wr S p q la s k) (h2 : Live w w2 S' p (s.drop (k + 1))) (t : Turn S S' wr w2) : Took w w2 S' p q la s k :=
  ⟨h2, h.row.turn t, fun hq => h.off (t.old q h.last.lt hq), h.new, t.mod.blk h.last h.off, h.laq⟩
theorem Took.set {w wr : World} {S : Nat → Prop} {p q : Nat} {la : Option Addr} {s : List Ent} {k : Nat} (h : Took w wr S p q la s k) : Taking w (SetE wr q (fn s k)) S p q la s (k + 1) := by
  have hm := SetE.mod wr q (fn s k)
  refine ⟨h.live.aside hm (fun j hj e => h.off (e ▸ hj)) (fun j e => by subst e; exact h.new), ?_, h.off, h.new, ?_, h.laq⟩
  · rcases h.row with h1 | ⟨g, rest, rfl, hg, hb⟩
    · exact .inl h1
    · rcases h.laq with h2 | h2
      · exact .inl h2
      · exact .inr ⟨g, rest, rfl, hg, hm.blk hb (fun e => h2 (by rw [e]))⟩
  · rw [if_neg (by omega), Nat.add_sub_cancel]
    exact SetE.blk h.last (fn s k)
theorem Took.at {w wr : World} {S : Nat → Prop} {p q : Nat} {la : Option Addr} {s : List Ent} {k : Nat} (h : Took w wr S p q la s k) (hk : k < s.length) :
    ∃ g, la = some ⟨g, 0, none⟩ ∧ wr.cell? ⟨g, k * 2, none⟩ = some (.int .i64 (fn s k).1) ∧ wr.cell? ⟨g, k * 2 + 1, none⟩ = some (.int .i64 (fn s k).2) := by
  rcases h.row with h1 | ⟨g, rest, rfl, hg, hb⟩
  · subst h1; simp at hk
  · have hrd := hb.rdv 0 (vs := entC s) (fun i hi => by rw [Nat.zero_add, List.getElem?_append_left hi])
    obtain ⟨b, o, e, c1, c2⟩ := rd_ent hrd hk
    obtain ⟨rfl, rfl⟩ : g = b ∧ 0 = o := by simpa using e
    rw [Nat.zero_add] at c1 c2
    exact ⟨g, rfl, c1, c2⟩
set_option maxRecDepth 100000 in
set_option maxHeartbeats 12800000 in
theorem AgendaOrder_walk (w : World) (v0 : Value) (l : List Ent) (w0 : VEnts w v0 l) (v1' : Value) (q : List Int) (w1' : VInts w v1' q) (now : Int) (_ : (Lit.int .i64 now).wf = true) : Calls Try.prog 6 #[v0, v1', .int .i64 now] w (Walk w) := by
  obtain ⟨a, c, rfl, _, hr, hbig⟩ := w0
  obtain ⟨qa, qc, rfl, hqlen, hqs⟩ := w1'
  have HR := hid hr
  have HB := hid hbig
  have HQS := hid hqs
  have HN := hid (live_new w w (Mod.refl _ _))
  unfold LNew Ptr at HN
  clear hr hbig hqs
  go_enter Try.func6, Try.ntmps6
  go_wp2_with fail
  refine HN.out.mono ?_
  rintro e w1 ⟨p, S, rfl, h1, _, _⟩
  have HA := hid (awake_any w1)
  have HL := hid h1
  clear HN h1
  by_cases hl : l.length ≤ 300 ∧ q.length ≤ 300
  · obtain ⟨hl1, hl2⟩ := hl
    have hl1' : ¬ (300 : Int) < (l.length : Int) := by omega
    have hl2' : ¬ (300 : Int) < (q.length : Int) := by omega
    go_wp2_with fail
    refine HA.out.mono ?_
    rintro e w2 ⟨rfl, hm⟩
    have HB0 := hid (HL.out.step hm)
    clear hm HA HL
    go_wp2_with fail
    go_loopw [8] (fun i wr => ∃ (k : Nat) (S : Nat → Prop), k ≤ l.length ∧ i = .int .i64 k ∧ Hid (Live w wr S p (build (l.take k)))) (fun i _ => l.length - (intOf i).toNat)
    case atStart => exact ⟨0, S, by omega, rfl, HB0.out⟩
    case round =>
      obtain ⟨k, S, hk, rfl, hrel⟩ := hrel
      clear HB0
      by_cases hlt : k < l.length
      · have hlt' : (k : Int) < (l.length : Int) := by omega
        obtain ⟨b, o, rfl, c1, c2⟩ := rd_ent (hrel.out.mod.rdv HR.out (fun _ _ h => h)) hlt
        have HBX := hid (HB.out _ (fn_mem hlt))
        have HS := hid (show build (l.take (k + 1)) = putL (build (l.take k)) (fn l k) by rw [fn_take_succ l k hlt, build_snoc])
        have HLE := hid (show (build (l.take k)).length ≤ 300 by have := build_len (l.take k); rw [List.length_take] at this; omega)
        generalize fn l k = x at *
        have HPut := hid (live_put hrel.out.drew x HBX.out (by have := HLE.out; omega))
        unfold Ptr at HPut
        go_wp2_with fail
        refine wp_region_still_tail 11 (by kernel_rfl) (by kernel_rfl) ?_
        change wpStill _ _ (World.drew _) (fun a' => wpList _ _ _ _ a' (World.drew _)) _ _
        simp only [List.take_succ_cons, List.take_zero, List.drop_succ_cons, List.drop_zero]
        repeat still_step
        refine wpStill_nil ?_
        go_wp2_with fail
        refine HPut.out.mono ?_
        rintro e w4 ⟨S4, rfl, h4, _⟩
        have HB4 := hid h4
        clear h4 HPut c1 c2 hrel
        go_wp2_with fail
        go_roundw
        case rel => exact ⟨k + 1, S4, by omega, by go_num, by show Live _ _ _ _ _; rw [HS.out]; exact HB4.out⟩
        case measure => simp [intOf]; omega
      · obtain rfl : k = l.length := by omega
        rw [List.take_length] at hrel
        have HSL := hid (show (build l).length ≤ 300 by have := build_len l; omega)
        generalize build l = s0 at *
        have HD0 := hid (show Live w wr S p (dropAll s0 (q.take 0)) from hrel.out)
        clear hrel
        go_wp2_with fail
        go_loopw [9] (fun i wr => ∃ (k : Nat) (S : Nat → Prop), k ≤ q.length ∧ i = .int .i64 k ∧ Hid (Live w wr S p (dropAll s0 (q.take k)))) (fun i _ => q.length - (intOf i).toNat)
        case atStart => exact ⟨0, S, by omega, rfl, HD0.out⟩
        case round =>
          obtain ⟨k, S, hk, rfl, hrel⟩ := hrel
          clear HD0
          by_cases hlt : k < q.length
          · have hlt' : (k : Int) < (q.length : Int) := by omega
            obtain ⟨qb, qo, rfl, z1, hz64⟩ := VInts.at HQS.out hrel.out.mod hlt
            have HS := hid (dropAll_succ s0 q k hlt)
            generalize q[k] = z at *
            have HDr := hid (live_drop hrel.out z hz64 (by have := dropAll_len (q.take k) s0; have := HSL.out; omega))
            unfold Ptr at HDr
            go_wp2_with fail
            refine HDr.out.mono ?_
            rintro e w4 ⟨S4, rfl, h4, _⟩
            have HB4 := hid h4
            clear h4 HDr z1 hrel
            go_wp2_with fail
            go_roundw
            case rel => exact ⟨k + 1, S4, by omega, by go_num, by show Live _ _ _ _ _; rw [HS.out]; exact HB4.out⟩
            case measure => simp [intOf]; omega
          · obtain rfl : k = q.length := by omega
            rw [List.take_length] at hrel
            have HSL2 := hid (show (dropAll s0 q).length ≤ 300 by have := dropAll_len q s0; have := HSL.out; omega)
            generalize dropAll s0 q = s at *
            have HLI := hid (live_list hrel.out (by have := HSL2.out; omega))
            have HSRT := hid hrel.out.ag.srt
            have HUN := hid hrel.out.ag.unlike
            unfold Ptr at HLI
            go_wp2_with fail
            refine HLI.out.mono ?_
            rintro e w3 ⟨la, lc, rfl, hrow, h3, hm3⟩
            have HRW := hid hrow.rdv
            have HLA := hid (show LaOk w3 S la s by
              rcases hrow with h | ⟨g, rest, rfl, hg, hb⟩
              · exact .inl h
              · exact .inr ⟨g, rest, rfl, fun h => by have := hrel.out.ag.lt g h; omega, hb⟩)
            have H3 := hid h3
            clear hrow h3 hm3 hrel HLI
            have hs300 := HSL2.out
            go_wp2_with fail
            go_loopw [11, 12] (fun n i wr => ∃ (k : Nat), k ≤ s.length ∧ i = .int .i64 k ∧ n = .int .i64 (late now (s.take k) : Int) ∧ wr = w3) (fun _ i _ => s.length - (intOf i).toNat)
            case atStart => exact ⟨0, by omega, rfl, rfl, rfl⟩
            case round =>
              obtain ⟨k, hk, rfl, rfl, rfl⟩ := hrel
              by_cases hlt : k < s.length
              · have hlt' : (k : Int) < (s.length : Int) := by omega
                obtain ⟨b, o, rfl, c1, c2⟩ := rd_ent HRW.out hlt
                have HS := hid (late_snoc now (s.take k) (fn s k))
                rw [← fn_take_succ s k hlt] at HS
                have hlle := late_le now (s.take k)
                rw [List.length_take] at hlle
                generalize fn s k = x at *
                by_cases hx : x.2 ≤ now
                · have HS2 := HS.out
                  rw [if_pos hx] at HS2
                  have HS3 := hid HS2
                  generalize late now (s.take k) = n at *
                  clear HS HS2
                  go_wp2_with fail
                  go_roundw
                  case rel => exact ⟨k + 1, by omega, by go_num, by rw [HS3.out]; go_num, trivial⟩
                  case measure => simp [intOf]; omega
                · have hx' : now < x.2 := by omega
                  have HS2 := HS.out
                  rw [if_neg hx] at HS2
                  have HS3 := hid HS2
                  clear HS HS2 hx
                  go_wp2_with fail
                  go_roundw
                  case rel => exact ⟨k + 1, by omega, by go_num, by rw [HS3.out], trivial⟩
                  case measure => simp [intOf]; omega
              · obtain rfl : k = s.length := by omega
                rw [List.take_length]
                obtain ⟨L, hLL⟩ : ∃ L, L = late now s := ⟨_, rfl⟩
                have HSP := hid (late_spec now s HSRT.out)
                have HTN := hid (take_none HSRT.out now)
                have hLle := late_le now s
                rw [← hLL] at HSP HTN hLle ⊢
                clear hLL
                have HT0 := hid (fun (hb : Blk (wr.alloc (.cells #[.int .i64 0, .int .i64 0] 36)) wr.heap.size 36 [.int .i64 0, .int .i64 0]) => show Taking w (wr.alloc (.cells #[.int .i64 0, .int .i64 0] 36)) S p wr.heap.size la s 0 from
                  ⟨H3.out.alloc _, HLA.out.same ((Mod.refl None wr).alloc _), fun h => by have := H3.out.ag.lt _ h; omega, H3.out.mod.size, hb, by
                    rcases HLA.out with h | ⟨g, rest, rfl, _, hb2⟩
                    · exact .inl h
                    · right; intro e; have h2 := hb2.lt; injection e with e; injection e with e; omega⟩)
                have HT1 := hid (HT0.out (Blk.new wr 36 #[.int .i64 0, .int .i64 0]))
                clear HT0 H3 HLA HRW
                go_wp2_with fail
                generalize wr.heap.size = qq at *
                go_loopw [14] (fun i wr => ∃ (k : Nat) (S : Nat → Prop), k ≤ L ∧ i = .int .i64 k ∧ Hid (Taking w wr S p qq la s k)) (fun i _ => L - (intOf i).toNat)
                case atStart => exact ⟨0, S, by omega, rfl, HT1.out⟩
                case round =>
                  obtain ⟨k, S, hk, rfl, hrel⟩ := hrel
                  clear HT1
                  by_cases hlt : k < L
                  · have hlt' : (k : Int) < (L : Int) := by omega
                    have hdue := HSP.out.1 k hlt
                    have HTK := hid (live_take hrel.out.live now (by rw [List.length_drop]; omega))
                    rw [take_due (by omega) hdue] at HTK
                    unfold Ptr V at HTK
                    go_wp2_with fail
                    refine HTK.out.mono ?_
                    rintro e w5 ⟨S5, rfl, h5, ht5⟩
                    have hk5 := hrel.out.took h5 ht5
                    obtain ⟨g, rfl, c1, c2⟩ := hk5.at (by omega)
                    have z0 := hk5.last.is (i := 0) rfl
                    have z1 := hk5.last.is (i := 1) rfl
                    have hgl := World.block_lt_of_cell? w5 _ c1
                    have hql := hk5.last.lt
                    have HK5 := hid hk5
                    have hx' : decide (now < (fn s k).2) = false := decide_eq_false (by omega)
                    by_cases hk0 : k = 0
                    · subst hk0
                      have HSE := hid (fun o q' => ((hk5.same ((Mod.refl None w5).alloc o)).same (Mod.drewN (Mod.refl None _) q')).set)
                      clear hrel hk5 h5 ht5 HTK z0 z1
                      generalize fn s 0 = x at *
                      have f0 := HK5.out.last.free 0
                      have f1 := HK5.out.last.free 1
                      have z0 := HK5.out.last.is (i := 0) rfl
                      have z1 := HK5.out.last.is (i := 1) rfl
                      go_wp2_with fail
                      go_quiet (fail)
                      go_wp2_with fail
                      go_roundw
                      case rel => exact ⟨1, S5, by omega, by go_num, HSE.out _ _⟩
                      case measure => simp [intOf]; omega
                    · have hk0' : (0 : Int) < (k : Int) := by omega
                      have hkp : 0 < k := by omega
                      have HBF := hid (fun w => refbefore_any w (fn s (k - 1)) (fn s k))
                      unfold BPost at HBF
                      rw [before_next HSRT.out HUN.out (by omega) (by omega)] at HBF
                      unfold V at HBF
                      have HSE := hid (fun o w6 (hm : Mod None (w5.alloc o).drew w6) => (hk5.same (((Mod.refl None w5).alloc o).drew.trans hm)).set)
                      have HZ6 := hid (fun o w6 (hm : Mod None (w5.alloc o).drew w6) => hm.blk ((hk5.last.alloc o).drew) (fun h => h))
                      rw [if_neg hk0] at z0 z1
                      rw [if_neg hk0] at HZ6
                      clear hrel hk5 h5 ht5 HTK HK5
                      generalize fn s k = x at *
                      generalize fn s (k - 1) = y at *
                      have HX6 := hid (fun w6 (hm : Mod None (w5.alloc (.cells #[.int .i64 x.1, .int .i64 x.2] 36)).drew w6) => hm.blk ((Blk.new w5 36 #[.int .i64 x.1, .int .i64 x.2]).drew) (fun h => h))
                      have hx2 : ¬ now < x.2 := by omega
                      have hks : (k : Int) < (s.length : Int) := by omega
                      go_wp2_with fail
                      refine wp_region_still_tail 30 (by kernel_rfl) (by kernel_rfl) ?_
                      change wpStill _ _ (World.drew _) (fun a' => wpList _ _ _ _ a' (World.drew _)) _ _
                      simp only [List.take_succ_cons, List.take_zero, List.drop_succ_cons, List.drop_zero]
                      repeat still_step
                      refine wpStill_nil ?_
                      go_wp2_with fail
                      refine (HBF.out _).mono ?_
                      rintro e w6 ⟨rfl, hm6⟩
                      have hz := HZ6.out _ w6 hm6
                      have hxx := HX6.out w6 hm6
                      have HT6 := hid (HSE.out _ w6 hm6)
                      clear z0 z1 c1 c2
                      have z0 := hz.is (i := 0) rfl
                      have z1 := hz.is (i := 1) rfl
                      have f0 := hz.free 0
                      have f1 := hz.free 1
                      have x0 := hxx.is (i := 0) rfl
                      have x1 := hxx.is (i := 1) rfl
                      clear hz hxx hm6 HBF HSE HZ6 HX6
                      go_wp2_with fail
                      go_roundw
                      case rel => exact ⟨k + 1, S5, by omega, by go_num, HT6.out⟩
                      case measure => simp [intOf]; omega
                  · obtain rfl : k = L := by omega
                    have HTK := hid (live_take hrel.out.live now (by rw [List.length_drop]; omega))
                    rw [HTN.out] at HTK
                    unfold Ptr V at HTK
                    go_wp2_with fail
                    refine HTK.out.mono ?_
                    rintro e w5 ⟨S5, rfl, h5, ht5⟩
                    have HLN := hid (fun o => show Calls Try.prog 17 #[Ptr p] (w5.alloc o) (fun e w' => e = .returned (.int .i64 ((s.length : Int) - (k : Int))) ∧ w5.alloc o = w') by
                      have := live_len (h5.alloc o)
                      rwa [show ((s.drop k).length : Int) = (s.length : Int) - (k : Int) by rw [List.length_drop]; omega] at this)
                    have HE := hid (fun o => walk_of ((h5.alloc o).mod))
                    unfold Ptr at HLN
                    clear h5 ht5 HTK hrel
                    go_wp2_with fail
                    refine (HLN.out _).mono ?_
                    rintro e w6 ⟨rfl, rfl⟩
                    go_wp2_with fail
                    go_ret
                    exact HE.out _
  · have HA2 := hid (fun w => awake_any w)
    by_cases hl1 : l.length ≤ 300
    · have hl1' : ¬ (300 : Int) < (l.length : Int) := by omega
      have hl2' : (300 : Int) < (q.length : Int) := by omega
      clear hl
      go_wp2_with fail
      refine HA.out.mono ?_
      rintro e w2 ⟨rfl, hm⟩
      go_wp2_with fail
      refine (HA2.out w2).mono ?_
      rintro e w3 ⟨rfl, hm3⟩
      have HE := hid (walk_of ((HL.out.mod.trans hm).trans hm3))
      clear hm hm3 HL
      go_wp2_with fail
      go_ret
      exact HE.out
    · have hl1' : (300 : Int) < (l.length : Int) := by omega
      clear hl
      go_wp2_with fail
      refine HA.out.mono ?_
      rintro e w2 ⟨rfl, hm⟩
      go_wp2_with fail
      refine (HA2.out w2).mono ?_
      rintro e w3 ⟨rfl, hm3⟩
      have HE := hid (walk_of ((HL.out.mod.trans hm).trans hm3))
      clear hm hm3 HL
      go_wp2_with fail
      go_ret
      exact HE.out
end Go.Proofs.Ytekobigoekfckaa

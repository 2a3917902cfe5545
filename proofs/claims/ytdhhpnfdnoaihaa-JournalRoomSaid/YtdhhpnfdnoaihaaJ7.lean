/- A journal's Append. -/
import Derived.Test.YtdhhpnfdnoaihaaJ5
import Derived.Test.YtdhhpnfdnoaihaaJ9
namespace Go.Proofs.Ytdhhpnfdnoaihaa
open Go.RowKit

def jpart (st : DSt) (fr en : Nat) : List UInt8 := if 0 < en % 64 then (st.read ((fr + en / 64 : Nat) : Int)).1.take (en % 64) else []
def jall (st : DSt) (fr en : Nat) (b : List UInt8) : List UInt8 := jpart st fr en ++ frameL b

@[go_sem] theorem semAt_round (l : Nat) (ρ : Operand → Value) (o : Oper) (h : ∀ c, o.op ≠ .defer c) : Oper.semAt (some l) ρ o = execOp ρ o := Oper.semAt_some l ρ o h
/-- a frame is laid behind -/
def DSt.append (st : DSt) (fr en : Nat) (b : List UInt8) : DSt × Int :=
  if (wrs ((jall st fr en b).length + 1) st (fr + en / 64) (jall st fr en b)).2 = 0 then (wrs ((jall st fr en b).length + 1) st (fr + en / 64) (jall st fr en b)).1.flush
  else wrs ((jall st fr en b).length + 1) st (fr + en / 64) (jall st fr en b)
def APost (w0 w : World) (S : Nat → Prop) (p j fr to en ct bl : Nat) (r : DSt × Int) (e : Ending) (w' : World) : Prop :=
  ∃ S', e = .returned (.int .i64 r.2) ∧ Live w0 w' S' p r.1 ∧ IsJ w' j p fr to (if r.2 = 0 then ((en + bl + 16 : Nat) : Int) else (en : Int)) (if r.2 = 0 then ((ct + 1 : Nat) : Int) else (ct : Int)) ∧
    Mod (fun x => S x ∨ x = j) w w' ∧ (∀ x, x < w.heap.size → S' x → S x)
theorem LJ.mod {w0 W4 : World} {S : Nat → Prop} {p bf rb q i0 n0 : Nat} {f : List UInt8} {res : DSt × Int} {k kb : Nat} {a : Option Addr} {c : Nat} {W' : World} (h : LJ w0 W4 S p bf rb q i0 n0 f res k kb a c W') : Mod (fun x => S x ∨ x = bf ∨ x = rb) W4 W' := by
  obtain ⟨S', stk, a1, a2', a3, a4, a5, a6, a7, a8, a9, a10, a11, a12⟩ := h
  exact a5
theorem LJ.size {w0 W4 : World} {S : Nat → Prop} {p bf rb q i0 n0 : Nat} {f : List UInt8} {res : DSt × Int} {k kb : Nat} {a : Option Addr} {c : Nat} {W' : World} (h : LJ w0 W4 S p bf rb q i0 n0 f res k kb a c W') : W4.heap.size + 2 ≤ W'.heap.size := by
  obtain ⟨S', stk, a1, a2', a3, a4, a5, a6, a7, a8, a9, a10, a11, a12⟩ := h
  exact a6
theorem LJ.spot {w0 W4 : World} {S : Nat → Prop} {p bf rb q i0 n0 : Nat} {f : List UInt8} {res : DSt × Int} {k kb : Nat} {a : Option Addr} {c : Nat} {W' : World} (h : LJ w0 W4 S p bf rb q i0 n0 f res k kb a c W') {a2 : Option Addr} (hm : ∃ m, a2 = a ∨ a2 = Option.map (fun x => x.add m) a) :
    f.drop (64 * (kb + 1)) = [] ∨ ∃ o, a2 = some ⟨q, o, none⟩ := by
  obtain ⟨S', stk, a1, a2', a3, a4, a5, a6, a7, a8, a9, a10, a11, a12⟩ := h
  rcases a10 with h | ⟨o, rfl⟩
  · left; rw [List.drop_eq_nil_iff] at h ⊢; omega
  · right
    obtain ⟨m, rfl | rfl⟩ := hm
    · exact ⟨o, rfl⟩
    · exact ⟨o + m, by rw [Option.map_some, add_mk]⟩
theorem append_fin {w0 w W W4 W' W2 X : World} {S S' S2 T : Nat → Prop} {p j bf rb : Nat} {st2 : DSt} (hm0 : Mod None w W) (hm4 : Mod None W W4) (hmw : Mod (fun x => S x ∨ x = bf ∨ x = rb) W4 W') (h3 : ∀ x, x < W4.heap.size + 2 → S' x → S x)
    (ht2 : Turn S' S2 W' W2) (hl2 : Live w0 W2 S2 p st2) (hx : Mod T W2 X) (hT : ∀ x, T x → x = j ∨ w.heap.size ≤ x) (hTS : ∀ x, T x → x < W'.heap.size ∧ ¬ S' x ∧ w0.heap.size ≤ x) (hbf : w.heap.size ≤ bf) (hrb : w.heap.size ≤ rb) :
    Live w0 X S2 p st2 ∧ Mod (fun x => S x ∨ x = j) w X ∧ (∀ x, x < w.heap.size → S2 x → S x) := by
  have hs1 := hm0.size
  have hs2 := hm4.size
  have hs3 := hmw.size
  have hold : ∀ x, x < w.heap.size → S2 x → S x := fun x hx hs => h3 x (by omega) (ht2.old x (by omega) hs)
  obtain ⟨b1, _⟩ := hl2.turn (Turn.same hx) (fun x hs ht => (hTS x ht).2.1 (ht2.old x (hTS x ht).1 hs)) (fun x ht => (hTS x ht).2.2)
  refine ⟨b1, ?_, hold⟩
  have m1 : Mod (fun x => S x ∨ x = j) w W4 := (hm0.trans hm4).mono (fun _ _ h => h.elim)
  have m2 := m1.then hmw (fun i hi h => by
    rcases h with h | h | h
    · exact .inl h
    · omega
    · omega)
  have m3 := m2.then ht2.mod (fun i hi h => .inl (h3 i (by omega) h))
  exact m3.then hx (fun i hi h => by
    rcases hT i h with h | h
    · exact .inr h
    · omega)
def cutRel (W wc : World) (fa : Option Addr) (fc : Nat) (l : List UInt8) : Prop := (∃ q rest, fa = some ⟨q, 0, none⟩ ∧ W.heap.size ≤ q ∧ Blk wc q 5 (l.map B ++ rest)) ∧ l.length ≤ fc ∧ fc ≤ maxLen ∧ Mod None W wc
theorem OwnB.capm {w : World} {base : Nat} {a : Option Addr} {n c : Nat} {l : List UInt8} (h : OwnB w base (.slice a n c) l) : c ≤ maxLen := by
  rcases h.2 with ⟨e, h0⟩ | ⟨g, cap, cur, e, _, _, hn, hm, _⟩
  · cases e; exact Nat.zero_le _
  · cases e; exact hm
theorem cut_of {W W0 wc : World} {fa : Option Addr} {n fc : Nat} {l : List UInt8} (h : OwnB wc W0.heap.size (.slice fa n fc) l) (hl : 0 < l.length) (hm : Mod None W wc) (hs : W.heap.size ≤ W0.heap.size := by exact Nat.le_refl _) : cutRel W wc fa fc l := by
  obtain ⟨g, rest, rfl, _, hb, hbk⟩ := h.opened hl
  exact ⟨⟨g, rest, rfl, Nat.le_trans hs hb, hbk⟩, h.cap, h.capm, hm⟩
theorem lread_old {w0 w : World} {S : Nat → Prop} {p : Nat} {st : DSt} {i : Int} {old : List UInt8} {n : Int} (h : Calls Try.prog 33 #[.pointer (some ⟨p, 0, none⟩), .int .i64 i] w (LRead w0 w S p st (old, n))) (ho : old.length = 64) :
    Calls Try.prog 33 #[.pointer (some ⟨p, 0, none⟩), .int .i64 i] w fun e w' => ∃ a, e = .returned (.tuple #[.slice a 64 64, .int .i64 n]) ∧ Rd w' a old ∧ Mod None w w' :=
  h.mono fun e w' ⟨a, he, ht, _, _, hm⟩ => ⟨a, by rw [he]; simp only [ho], ht.rd, hm⟩
theorem cut_rd {W wc W2 : World} {fa : Option Addr} {fc : Nat} {l : List UInt8} (h : cutRel W wc fa fc l) (hm : Mod None wc W2) : Rd W2 fa l := by
  obtain ⟨⟨q, rest, rfl, _, hb⟩, _⟩ := h
  exact (hm.blk hb (fun h => h)).rdv 0 (fun i hi => by rw [Nat.zero_add, List.getElem?_append_left hi])
theorem cut_back {W wc W2 W2' W3 : World} {fa ga : Option Addr} {fc gc n : Nat} {l m : List UInt8} (h : cutRel W wc fa fc l) (hm : Mod None wc W2) (ho : OwnB W3 W2'.heap.size (.slice ga n gc) m) (hm3 : Mod None W2' W3) (hl : 0 < m.length) (hs : Mod None W2 W2' := by exact (Mod.refl None _).alloc _) : cutRel W W3 ga gc m := by
  obtain ⟨g, rest, rfl, _, hb, hbk⟩ := ho.opened hl
  obtain ⟨_, _, _, hW⟩ := h
  exact ⟨⟨g, rest, rfl, Nat.le_trans (Nat.le_trans hW.size (hm.trans hs).size) hb, hbk⟩, ho.cap, ho.capm, (hW.trans (hm.trans hs)).trans hm3⟩
set_option maxRecDepth 100000 in
set_option maxHeartbeats 1500000 in
theorem append_go (w0 w : World) (S : Nat → Prop) (p j : Nat) (st : DSt) (h : Live w0 w S p st) (fr to en ct : Nat) (hj : IsJ w j p fr to en ct) (hjS : ¬ S j) (hj0 : w0.heap.size ≤ j) (a : Option Addr) (c : Nat) (b : List UInt8) (hr : Rd w a b) 
    (hf : fr ≤ to ∧ to ≤ st.last.length) (hl : b.length ≤ 1048576) (hroom : en + b.length + 16 ≤ (to - fr) * 64) (hen : en ≤ 4194304) (hctb : ct ≤ 100000000) (hdn : st.down = false) (hws : st.waits.length ≤ 2990000000000) :
    Calls Try.prog 47 #[.pointer (some ⟨j, 0, none⟩), .slice a b.length c] w (APost w0 w S p j fr to en ct b.length (st.append fr en b)) := by
  have HLT := hid h.lt
  have HNW := hid h.2.2
  have HW0 := hid h.2.1.size
  have HJL := hid hj.lt
  have hok := h.ok
  have hmost := hok.most
  have hlen : ¬ (1048576 : Int) < (b.length : Int) := by omega
  have hfi : (0 : Int) ≤ fr ∧ (fr : Int) ≤ to ∧ (to : Int) ≤ 65536 := by omega
  have hlt : ¬ ((to : Int) - fr) * 64 - en < (b.length : Int) + 16 := by omega
  have hw1 : IntKind.i64.wrap (((to : Int) - fr) * 64 - en) = ((to : Int) - fr) * 64 - en := wrap_in _ (by omega)
  have hm0 : Mod None w ((w.alloc (.cells #[.pointer (some ⟨j, 0, none⟩)] 62)).alloc (.cells #[.int .i64 0] 40)) := ((Mod.refl _ _).alloc _).alloc _
  obtain ⟨W, hW⟩ : ∃ W, W = (w.alloc (.cells #[.pointer (some ⟨j, 0, none⟩)] 62)).alloc (.cells #[.int .i64 0] 40) := ⟨_, rfl⟩
  rw [← hW] at hm0
  have hjw : IsJ W j p fr to en ct := hm0.blk hj (fun h => h)
  obtain ⟨_, _, _, h3, _⟩ := hjw.cells
  have hbx : Blk W w.heap.size 62 [.pointer (some ⟨j, 0, none⟩)] := by rw [hW]; exact (Blk.new w 62 _).alloc _
  have hrb : Blk W (w.heap.size + 1) 40 [.int .i64 0] := by
    have := Blk.new (w.alloc (.cells #[.pointer (some ⟨j, 0, none⟩)] 62)) 40 #[.int .i64 0]
    simp only [World.size_alloc] at this
    rw [hW]; exact this
  have hbx0 : W.cell? ⟨w.heap.size, 0, none⟩ = some (.pointer (some ⟨j, 0, none⟩)) := hbx.is rfl
  have HWS := hid (show W.heap.size = w.heap.size + 2 by rw [hW]; simp)
  have HM := hid hm0
  have HBX := hid hbx
  have HRB := hid hrb
  have HJ := hid hjw
  have HLV := hid (h.step hm0)
  have HR := hid (hm0.rd hr (fun _ _ h => h))
  have HQ := hid (fun m => room_quiet hjw hfi m)
  have HX := hid (And.intro hf (And.intro hroom (And.intro hws hmost)))
  generalize hRR : ((to : Int) - fr) * 64 = R at *
  clear hRR hfi hf hroom hbx hrb hjw hj hm0 hr h hws
  refine (callsIn_wide (n := 5)).1 (callsIn_of_wp_marks Try.func47 rfl trivial (wpIn_wide.2 ?_))
  simp only [Try.ntmps47, List.size_toArray, List.length_cons, List.length_nil, Nat.reduceAdd, Nat.reduceSub, Array.replicate_succ, Array.replicate_zero, List.push_toArray, List.append_toArray, List.nil_append, List.cons_append]
  go_wp2_with fail
  rw [← hW]
  clear hW
  go_quiet (first | (go_at_call 74; exact HQ.out _))
  clear hw1 HQ
  rename_i nq
  go_wp2_with fail
  refine (frame_any (W.drewN nq) a c b HR.out hl).mono ?_
  rintro e W1 ⟨fa, fc, rfl, hfo, hfm⟩
  have HFO := hid hfo
  have HFM := hid ((mod_drewN W nq).trans hfm)
  have hbx1 : W1.cell? ⟨w.heap.size, 0, none⟩ = some (.pointer (some ⟨j, 0, none⟩)) := (HFM.out.blk HBX.out (fun h => h)).is rfl
  have hen1 : W1.cell? ⟨j, 3, none⟩ = some (.int .i64 (en : Int)) := Blk.is (HFM.out.blk HJ.out (fun h => h)) rfl
  rw [frameL_len] at *
  have HFL := hid (frameL_len b)
  clear hfo hfm h3 hbx0
  generalize hbl : b.length = bl at *
  go_upto_if 51 with (fail)
  have HC0 := hid (cut_of HFO.out (by rw [HFL.out]; omega) HFM.out)
  clear HFO
  have HRNG := hid (show fr + en / 64 < st.last.length by have := HX.out; omega)
  obtain ⟨pt, hpt⟩ : ∃ pt : Nat, (en : Int) - (en : Int) / 64 * 64 = (pt : Int) := ⟨en % 64, by omega⟩
  have HPT := hid (show pt = en % 64 by omega)
  rw [hpt]
  clear hpt
  obtain ⟨ix, hix⟩ : ∃ ix : Nat, (en : Int) / 64 = (ix : Int) := ⟨en / 64, by omega⟩
  have HIX := hid (show ix = en / 64 by omega)
  rw [hix]
  have hix2 : (ix : Int) * 64 / 64 = (ix : Int) := by omega
  have hixb : ix ≤ 65536 := by omega
  clear hix
  go_cut [6, 9, 10] from 50 (fun f o e wc => ∃ fa fc, f = .slice fa (jall st fr en b).length fc ∧ Hid (cutRel W wc fa fc (jall st fr en b)))
  case first =>
    by_cases hp : 0 < pt
    · have hp1 : (ix : Int) * 64 < (en : Int) := by have := HPT.out; have := HIX.out; omega
      have hj0 : W1.cell? ⟨j, 0, none⟩ = some (.pointer (some ⟨p, 0, none⟩)) := Blk.is (HFM.out.blk HJ.out (fun h => h)) rfl
      have hj1 : W1.cell? ⟨j, 1, none⟩ = some (.int .i64 (fr : Int)) := Blk.is (HFM.out.blk HJ.out (fun h => h)) rfl
      have HLR := hid (live_read (HLV.out.step (HFM.out.trans (Mod.refl None W1).drew)) ((fr : Int) + (ix : Int)))
      have hst : st.read ((fr : Int) + (ix : Int)) = (readTo st.waits (fr + ix) (st.last.getD (fr + ix) []), 0) := by
        have hlt := HRNG.out
        rw [← HIX.out] at hlt
        unfold DSt.read DSt.may
        rw [hdn]
        have h1 : ¬ ((fr : Int) + (ix : Int) < 0 ∨ (st.last.length : Int) ≤ (fr : Int) + (ix : Int)) := by omega
        have h2 : ((fr : Int) + (ix : Int)).toNat = fr + ix := by omega
        simp [h1, h2]
      have hol : (readTo st.waits (fr + ix) (st.last.getD (fr + ix) [])).length = 64 := read_len hok (by have := HRNG.out; rw [← HIX.out] at this; exact this)
      have HJA := hid (show jall st fr en b = (readTo st.waits (fr + ix) (st.last.getD (fr + ix) [])).take pt ++ frameL b by
        unfold jall jpart
        rw [← HPT.out, ← HIX.out, if_pos hp, show ((fr + ix : Nat) : Int) = (fr : Int) + (ix : Int) by omega, hst])
      rw [hst] at HLR
      have HLR := hid (lread_old (HLR.out) hol)
      clear hst
      generalize readTo st.waits (fr + ix) (st.last.getD (fr + ix) []) = old at *
      have HOL := hid hol
      have hpt64 : pt ≤ 64 := by have := HPT.out; omega
      have hwi1 : IntKind.i64.wrap (ix : Int) = ix := wrap_in _ (by omega)
      have hwi2 : IntKind.i64.wrap ((fr : Int) + (ix : Int)) = (fr : Int) + (ix : Int) := wrap_in _ (by have := HRNG.out; omega)
      go_wp2_with fail
      refine wp_region_noPanic ?_
      refine wp_region_held_drew (S := fun w' => w'.cell? ⟨w.heap.size, 0, none⟩ = some (.pointer (some ⟨j, 0, none⟩)) ∧ w'.cell? ⟨j, 0, none⟩ = some (.pointer (some ⟨p, 0, none⟩)) ∧ w'.cell? ⟨j, 1, none⟩ = some (.int .i64 (fr : Int))) (by kernel_rfl) ?_ (fun hHeld => ?_)
      · first | exact ⟨k1, k2, k3⟩ | exact ⟨hbx1, hj0, hj1⟩
      refine wpAnyH_take (i := 0) (oi := { dst := some 53, op := Op.load 62 (Operand.tmp 2), type := 62, pos := "journal.go:103", after := #[], guard := none }) (v := ?vo1_0) rfl (by kernel_rfl) (by kernel_rfl) (by kernel_rfl) (fun _ _ _ h => h) (Or.inl ⟨by rfl, ?yo1_0⟩) (by assumption) ?ro1_0
      case yo1_0 => (intro w hSw; (try dsimp only at hSw); go_simp; (try with_reducible rfl))
      try simp only [Act.put, List.setIfInBounds_toArray, List.set_cons_zero, List.set_cons_succ]
      refine wpAnyH_take (i := 1) (oi := { dst := some 54, op := Op.nilCheck (Operand.tmp 53), type := 0, pos := "journal.go:103", after := #[{ on := 0, ground := Ground.data }], guard := none }) (v := ?vo2_1) rfl (by kernel_rfl) (by kernel_rfl) (by kernel_rfl) (fun _ _ _ h => h) (Or.inl ⟨by rfl, ?yo2_1⟩) (by assumption) ?ro2_1
      case yo2_1 => (intro w hSw; (try dsimp only at hSw); go_simp; (try with_reducible rfl))
      try simp only [Act.put, List.setIfInBounds_toArray, List.set_cons_zero, List.set_cons_succ]
      refine wpAnyH_take (i := 2) (oi := { dst := some 55, op := Op.fieldAddr 118 (Operand.tmp 54) 0, type := 0, pos := "journal.go:103", after := #[{ on := 1, ground := Ground.data }], guard := none }) (v := ?vo3_2) rfl (by kernel_rfl) (by kernel_rfl) (by kernel_rfl) (fun _ _ _ h => h) (Or.inl ⟨by rfl, ?yo3_2⟩) (by assumption) ?ro3_2
      case yo3_2 => (intro w hSw; (try dsimp only at hSw); go_simp; (try with_reducible rfl))
      try simp only [Act.put, List.setIfInBounds_toArray, List.set_cons_zero, List.set_cons_succ]
      refine wpAnyH_take (i := 3) (oi := { dst := some 56, op := Op.load 37 (Operand.tmp 55), type := 37, pos := "journal.go:103", after := #[{ on := 2, ground := Ground.data }], guard := none }) (v := ?vo4_3) rfl (by kernel_rfl) (by kernel_rfl) (by kernel_rfl) (fun _ _ _ h => h) (Or.inl ⟨by rfl, ?yo4_3⟩) (by assumption) ?ro4_3
      case yo4_3 => (intro w hSw; (try dsimp only at hSw); go_simp; (try with_reducible rfl))
      try simp only [Act.put, List.setIfInBounds_toArray, List.set_cons_zero, List.set_cons_succ]
      refine wpAnyH_take (i := 4) (oi := { dst := some 57, op := Op.load 62 (Operand.tmp 2), type := 62, pos := "journal.go:103", after := #[], guard := none }) (v := ?vo5_4) rfl (by kernel_rfl) (by kernel_rfl) (by kernel_rfl) (fun _ _ _ h => h) (Or.inl ⟨by rfl, ?yo5_4⟩) (by assumption) ?ro5_4
      case yo5_4 => (intro w hSw; (try dsimp only at hSw); go_simp; (try with_reducible rfl))
      try simp only [Act.put, List.setIfInBounds_toArray, List.set_cons_zero, List.set_cons_succ]
      refine wpAnyH_take (i := 5) (oi := { dst := some 58, op := Op.nilCheck (Operand.tmp 57), type := 0, pos := "journal.go:103", after := #[{ on := 4, ground := Ground.data }], guard := none }) (v := ?vo6_5) rfl (by kernel_rfl) (by kernel_rfl) (by kernel_rfl) (fun _ _ _ h => h) (Or.inl ⟨by rfl, ?yo6_5⟩) (by assumption) ?ro6_5
      case yo6_5 => (intro w hSw; (try dsimp only at hSw); go_simp; (try with_reducible rfl))
      try simp only [Act.put, List.setIfInBounds_toArray, List.set_cons_zero, List.set_cons_succ]
      refine wpAnyH_take (i := 6) (oi := { dst := some 59, op := Op.fieldAddr 118 (Operand.tmp 58) 1, type := 0, pos := "journal.go:103", after := #[{ on := 5, ground := Ground.data }], guard := none }) (v := ?vo7_6) rfl (by kernel_rfl) (by kernel_rfl) (by kernel_rfl) (fun _ _ _ h => h) (Or.inl ⟨by rfl, ?yo7_6⟩) (by assumption) ?ro7_6
      case yo7_6 => (intro w hSw; (try dsimp only at hSw); go_simp; (try with_reducible rfl))
      try simp only [Act.put, List.setIfInBounds_toArray, List.set_cons_zero, List.set_cons_succ]
      refine wpAnyH_take (i := 7) (oi := { dst := some 60, op := Op.load 3 (Operand.tmp 59), type := 3, pos := "journal.go:103", after := #[{ on := 6, ground := Ground.data }], guard := none }) (v := ?vo8_7) rfl (by kernel_rfl) (by kernel_rfl) (by kernel_rfl) (fun _ _ _ h => h) (Or.inl ⟨by rfl, ?yo8_7⟩) (by assumption) ?ro8_7
      case yo8_7 => (intro w hSw; (try dsimp only at hSw); go_simp; (try with_reducible rfl))
      try simp only [Act.put, List.setIfInBounds_toArray, List.set_cons_zero, List.set_cons_succ]
      refine wpAnyH_take (i := 8) (oi := { dst := some 61, op := Op.move (Operand.tmp 5), type := 2, pos := "journal.go:103", after := #[], guard := none }) (v := ?vo9_8) rfl (by kernel_rfl) (by kernel_rfl) (by kernel_rfl) (fun _ _ _ h => h) (Or.inl ⟨by rfl, ?yo9_8⟩) (by assumption) ?ro9_8
      case yo9_8 => (intro w hSw; (try dsimp only at hSw); go_simp; (try with_reducible rfl))
      try simp only [Act.put, List.setIfInBounds_toArray, List.set_cons_zero, List.set_cons_succ]
      refine wpAnyH_take (i := 9) (oi := { dst := some 62, op := Op.binOp BinOp.quo 2 (Operand.tmp 61) (Operand.const (Value.int IntKind.i64 64)) 2, type := 2, pos := "journal.go:103", after := #[{ on := 8, ground := Ground.data }], guard := none }) (v := ?vo10_9) rfl (by kernel_rfl) (by kernel_rfl) (by kernel_rfl) (fun _ _ _ h => h) (Or.inl ⟨by rfl, ?yo10_9⟩) (by assumption) ?ro10_9
      case yo10_9 => (intro w hSw; (try dsimp only at hSw); go_simp; (try with_reducible rfl))
      try simp only [Act.put, List.setIfInBounds_toArray, List.set_cons_zero, List.set_cons_succ]
      refine wpAnyH_take (i := 10) (oi := { dst := some 63, op := Op.binOp BinOp.add 3 (Operand.tmp 60) (Operand.tmp 62) 3, type := 3, pos := "journal.go:103", after := #[{ on := 7, ground := Ground.data }, { on := 9, ground := Ground.data }], guard := none }) (v := ?vo11_10) rfl (by kernel_rfl) (by kernel_rfl) (by kernel_rfl) (fun _ _ _ h => h) (Or.inl ⟨by rfl, ?yo11_10⟩) (by assumption) ?ro11_10
      case yo11_10 => (intro w hSw; (try dsimp only at hSw); go_simp; (try with_reducible rfl))
      try simp only [Act.put, List.setIfInBounds_toArray, List.set_cons_zero, List.set_cons_succ]
      refine wpAnyH_ready (rs := [11]) (by kernel_rfl) (by simp) ?_
      refine AllReadyH.cons (o := { dst := some 64, op := Op.call { callee := Callee.value (Operand.func 33), args := #[Operand.tmp 56, Operand.tmp 63], argTypes := #[37, 3] }, type := 48, pos := "journal.go:103", after := #[{ on := 3, ground := Ground.data }, { on := 10, ground := Ground.data }], guard := none }) rfl (fun K hK => ?_) AllReadyH.nil
      go_simp; refine HLR.out.mono ?_; rintro e W2 ⟨oa, rfl, hro, hm2⟩; have k1 := (hm2.cell (p := ⟨w.heap.size, 0, none⟩) (World.block_lt_of_cell? W1 _ hbx1) (fun h => h)).trans hbx1; have k2 := (hm2.cell (p := ⟨j, 0, none⟩) (World.block_lt_of_cell? W1 _ hj0) (fun h => h)).trans hj0; have k3 := (hm2.cell (p := ⟨j, 1, none⟩) (World.block_lt_of_cell? W1 _ hj1) (fun h => h)).trans hj1; have HRO := hid hro; have HM2 := hid ((Mod.refl None W1).drew.trans hm2); clear hro hm2; go_wp2_with fail
      refine hK.out _ _ ?_ (fun hHeld => ?_)
      · first | exact ⟨k1, k2, k3⟩ | exact ⟨hbx1, hj0, hj1⟩
      clear hK K
      try simp only [Act.put, List.setIfInBounds_toArray, List.set_cons_zero, List.set_cons_succ]
      refine wpAnyH_take (i := 12) (oi := { dst := some 52, op := Op.move (Operand.tmp 64), type := 48, pos := "journal.go:103", after := #[{ on := 11, ground := Ground.data }], guard := none }) (v := ?vo12_12) rfl (by kernel_rfl) (by kernel_rfl) (by kernel_rfl) (fun _ _ _ h => h) (Or.inl ⟨by rfl, ?yo12_12⟩) (by assumption) ?ro12_12
      case yo12_12 => (intro w hSw; (try dsimp only at hSw); go_simp; (try with_reducible rfl))
      try simp only [Act.put, List.setIfInBounds_toArray, List.set_cons_zero, List.set_cons_succ]
      refine wpAnyH_take (i := 13) (oi := { dst := some 65, op := Op.extract (Operand.tmp 52) 0, type := 27, pos := "journal.go:103", after := #[{ on := 12, ground := Ground.data }], guard := none }) (v := ?vo13_13) rfl (by kernel_rfl) (by kernel_rfl) (by kernel_rfl) (fun _ _ _ h => h) (Or.inl ⟨by rfl, ?yo13_13⟩) (by assumption) ?ro13_13
      case yo13_13 => (intro w hSw; (try dsimp only at hSw); go_simp; (try with_reducible rfl))
      try simp only [Act.put, List.setIfInBounds_toArray, List.set_cons_zero, List.set_cons_succ]
      refine wpAnyH_take (i := 14) (oi := { dst := some 66, op := Op.extract (Operand.tmp 52) 1, type := 40, pos := "journal.go:103", after := #[{ on := 12, ground := Ground.data }, { on := 15, ground := Ground.gcOnly Departure.lateStores }], guard := none }) (v := ?vo14_14) rfl (by kernel_rfl) (by kernel_rfl) (by kernel_rfl) (fun _ _ _ h => h) (Or.inl ⟨by rfl, ?yo14_14⟩) (by assumption) ?ro14_14
      case yo14_14 => (intro w hSw; (try dsimp only at hSw); go_simp; (try with_reducible rfl))
      try simp only [Act.put, List.setIfInBounds_toArray, List.set_cons_zero, List.set_cons_succ]
      refine wpAnyH_take (i := 15) (oi := { dst := some 9, op := Op.assign (Operand.tmp 65), type := 27, pos := "journal.go:103", after := #[{ on := 13, ground := Ground.data }, { on := 11, ground := Ground.chain }, { on := 0, ground := Ground.phase }, { on := 1, ground := Ground.phase }, { on := 2, ground := Ground.phase }, { on := 3, ground := Ground.phase }, { on := 4, ground := Ground.phase }, { on := 5, ground := Ground.phase }, { on := 6, ground := Ground.phase }, { on := 7, ground := Ground.phase }, { on := 8, ground := Ground.phase }, { on := 9, ground := Ground.phase }, { on := 10, ground := Ground.phase }, { on := 11, ground := Ground.phase }, { on := 12, ground := Ground.phase }, { on := 13, ground := Ground.phase }, { on := 14, ground := Ground.textOnly Departure.lateStores }], guard := none }) (v := ?vo15_15) rfl (by kernel_rfl) (by kernel_rfl) (by kernel_rfl) (fun _ _ _ h => h) (Or.inl ⟨by rfl, ?yo15_15⟩) (by assumption) ?ro15_15
      case yo15_15 => (intro w hSw; (try dsimp only at hSw); go_simp; (try with_reducible rfl))
      try simp only [Act.put, List.setIfInBounds_toArray, List.set_cons_zero, List.set_cons_succ]
      refine wpAnyH_take (i := 16) (oi := { dst := some 10, op := Op.assign (Operand.tmp 66), type := 40, pos := "journal.go:103", after := #[{ on := 14, ground := Ground.data }, { on := 15, ground := Ground.chain }, { on := 0, ground := Ground.phase }, { on := 1, ground := Ground.phase }, { on := 2, ground := Ground.phase }, { on := 3, ground := Ground.phase }, { on := 4, ground := Ground.phase }, { on := 5, ground := Ground.phase }, { on := 6, ground := Ground.phase }, { on := 7, ground := Ground.phase }, { on := 8, ground := Ground.phase }, { on := 9, ground := Ground.phase }, { on := 10, ground := Ground.phase }, { on := 11, ground := Ground.phase }, { on := 12, ground := Ground.phase }, { on := 13, ground := Ground.phase }, { on := 14, ground := Ground.phase }, { on := 15, ground := Ground.phase }], guard := none }) (v := ?vo16_16) rfl (by kernel_rfl) (by kernel_rfl) (by kernel_rfl) (fun _ _ _ h => h) (Or.inl ⟨by rfl, ?yo16_16⟩) (by assumption) ?ro16_16
      case yo16_16 => (intro w hSw; (try dsimp only at hSw); go_simp; (try with_reducible rfl))
      try simp only [Act.put, List.setIfInBounds_toArray, List.set_cons_zero, List.set_cons_succ]
      refine wpAnyH_done (by kernel_rfl) ?_ _
      refine NoPanic.normal ?_
      clear k2 k3 hj0 hj1 HLR
      have HP := hid (parts2 W2 _ (.slice oa pt 64) (.slice fa (bl + 16) fc) rfl (old.take pt) (frameL b) ⟨oa, 64, by rw [List.length_take, HOL.out, Nat.min_eq_left hpt64], rd_take HRO.out pt, by rw [List.length_take, HOL.out]; omega⟩ ⟨fa, fc, by rw [HFL.out], cut_rd HC0.out HM2.out, by rw [HFL.out]; omega⟩ _ rfl)
      go_wp2_with fail
      refine (concat_any _ _ 2 [old.take pt, frameL b] HP.out (by simp) (by simp [HFL.out]; omega) (by simp [HFL.out, HOL.out]; omega)).mono ?_
      rintro e W3 ⟨ga, gc, rfl, ho, hm3⟩
      have hfl2 : [old.take pt, frameL b].flatten = jall st fr en b := by rw [HJA.out]; simp
      rw [hfl2] at ho ⊢
      have HO := hid (cut_back HC0.out HM2.out ho hm3 (by rw [HJA.out, List.length_append, HFL.out]; omega))
      clear ho hm3 hfl2 HP
      go_wp2_with fail
      go_meet
      case rel => exact ⟨ga, gc, rfl, HO.out⟩
    · have hp1 : ¬ (ix : Int) * 64 < (en : Int) := by have := HPT.out; have := HIX.out; omega
      have HJA := hid (show jall st fr en b = frameL b by unfold jall jpart; rw [← HPT.out, if_neg hp]; rfl)
      clear hp
      go_wp2_with fail
      go_meet
      case rel => exact ⟨fa, fc, by rw [HJA.out, HFL.out], by rw [HJA.out]; exact HC0.out⟩
  case rest =>
    obtain ⟨fa2, fc2, rfl, hcr⟩ := hcut
    have HAL := hid (show (jall st fr en b).length ≤ bl + 16 + 64 by
      unfold jall jpart
      rw [List.length_append, HFL.out]
      split
      · rw [List.length_take]; omega
      · simp)
    have HCR := hid hcr.out
    clear hcr
    generalize hal : jall st fr en b = al at *
    have HALE := hid hal
    clear hal
    have hbxc : wc.cell? ⟨w.heap.size, 0, none⟩ = some (.pointer (some ⟨j, 0, none⟩)) := (HCR.out.2.2.2.blk HBX.out (fun h => h)).is rfl
    obtain ⟨⟨q, rest, rfl, hq1, hqb⟩, hc1, hc2, hcm⟩ := HCR.out
    have hqx := hqb.lt
    go_wp2_with fail
    refine (sectors_any wc j (some ⟨q, 0, none⟩) al.length fc2 _).mono ?_
    rintro e W4 ⟨rfl, hw4⟩
    have hm4 : Mod None wc W4 := by rw [hw4]; exact (((Mod.refl None wc).alloc _).alloc _).alloc _
    have hs4 : W4.heap.size = wc.heap.size + 3 := by rw [hw4]; simp
    have hbb : Blk W4 (wc.heap.size + 1) 27 [.slice (some ⟨q, 0, none⟩) al.length fc2] := by
      rw [hw4]
      have := (Blk.new (wc.alloc (.cells #[.pointer (some ⟨j, 0, none⟩)] 62)) 27 #[.slice (some ⟨q, 0, none⟩) al.length fc2]).alloc (.cells #[.int .i64 ((ix : Int) * 64)] 2)
      simpa using this
    have hbj : Blk W4 wc.heap.size 62 [.pointer (some ⟨j, 0, none⟩)] := by rw [hw4]; exact ((Blk.new wc 62 _).alloc _).alloc _
    have hba : Blk W4 (wc.heap.size + 2) 2 [.int .i64 ((ix : Int) * 64)] := by
      rw [hw4]
      have := Blk.new ((wc.alloc (.cells #[.pointer (some ⟨j, 0, none⟩)] 62)).alloc (.cells #[.slice (some ⟨q, 0, none⟩) al.length fc2] 27)) 2 #[.int .i64 ((ix : Int) * 64)]
      simpa using this
    have HM4 := hid (hcm.trans hm4)
    have HJ4 := hid (show IsJ W4 j p fr to en ct from HM4.out.blk HJ.out (fun h => h))
    have hfr4 : W4.cell? ⟨j, 1, none⟩ = some (.int .i64 (fr : Int)) := HJ4.out.cells.2.1
    have HBX4 := hid (HM4.out.blk HBX.out (fun h => h))
    have HRB4 := hid (HM4.out.blk HRB.out (fun h => h))
    have hws : wc.heap.size ≥ w.heap.size + 2 := by have := hcm.size; have := HWS.out; omega
    have HWC := hid hws
    have HSP : Hid (Spots w0 W4 S (wc.heap.size + 1) (w.heap.size + 1) q) := by
      have h1 := HWS.out
      have h2 := HW0.out
      refine ⟨by omega, by omega, by omega, fun hs => ?_, fun hs => ?_, fun hs => ?_, by omega, by omega, by omega, by omega, by omega, HNW.out, fun k hk => ?_⟩
      · have := HLT.out _ hs; omega
      · have := HLT.out _ hs; omega
      · have := HLT.out _ hs; omega
      · have := HLT.out _ hk; omega
    have HLV4 := hid (HLV.out.step HM4.out)
    have HRD4 := hid (show Rd W4 (some ⟨q, 0, none⟩) al from (hm4.blk hqb (fun h => h)).rdv 0 (fun i hi => by rw [Nat.zero_add, List.getElem?_append_left hi]))
    have HBB := hid hbb
    have HCC := hid (And.intro hc1 hc2)
    have HS4 := hid (show wc.heap.size + 3 = W4.heap.size from hs4.symm)
    have hcbj : W4.cell? ⟨wc.heap.size, 0, none⟩ = some (.pointer (some ⟨j, 0, none⟩)) := hbj.is rfl
    have hcba : W4.cell? ⟨wc.heap.size + 2, 0, none⟩ = some (.int .i64 (((ix * 64 : Nat)) : Int)) := by rw [show (((ix * 64 : Nat)) : Int) = (ix : Int) * 64 by omega]; exact hba.is rfl
    have HCB := hid (And.intro hcbj hcba)
    clear hw4 hm4 hs4 hbb hbj hba hq1 hqb hqx hc1 hc2 hcm hcbj hcba HCR
    obtain ⟨res, hres⟩ : ∃ res, wrs (al.length + 1) st (fr + ix) al = res := ⟨_, rfl⟩
    have HRES := hid hres
    clear hres
    go_wp2_with fail
    refine wp_sectors (bj := wc.heap.size) (ba := wc.heap.size + 2) (bf := wc.heap.size + 1) (j := j) (fr := fr) (at' := ix * 64) (i0 := fr + ix) (f := al) ?hfl ?hg
      (fun k a c W' => LJ w0 W4 S p (wc.heap.size + 1) (w.heap.size + 1) q (fr + ix) st.waits.length al res k k a c W')
      (fun k a c W' => LJ w0 W4 S p (wc.heap.size + 1) (w.heap.size + 1) q (fr + ix) st.waits.length al res (k + 1) k a c W')
      (fun W' => LX w0 W4 S p (wc.heap.size + 1) (w.heap.size + 1) res W') ?hIp ?hIp' ?hIpx (some ⟨q, 0, none⟩) fc2 ?h0 ?hId ?hI ?hN ?hbf HCB.out.1 HCB.out.2 hfr4 ?hi0 ?hb ?a1 ?hassign ?hbody ?hdone ?hstop
    case hfl => have := HAL.out; omega
    case hg => rfl
    case hIp => exact fun k a c W l o o' h1 h2 _ h => h.put HSP.out l o' h1 h2 (by have := HS4.out; have := HW0.out; omega)
    case hIp' => exact fun k a c W l o o' h1 h2 _ h => h.put HSP.out l o' h1 h2 (by have := HS4.out; have := HW0.out; omega)
    case hIpx => exact fun W l o o' h1 h2 _ h => h.put HSP.out l o' h1 h2 (by have := HS4.out; have := HW0.out; omega)
    case hassign =>
      intro l x v W' K hK
      gi_wp2
      exact hK
    case h0 =>
      intro o1 o2
      have hm : Mod None W4 ((W4.alloc o1).alloc o2) := ((Mod.refl None W4).alloc o1).alloc o2
      refine ⟨S, st, HLV4.out.step hm, ?_, fun x _ h => h, Nat.le_refl _, hm.mono (fun _ _ h => h.elim), by simp, ?_, hm.blk HRB4.out (fun h => h), hm.rd HRD4.out (fun _ _ h => h), .inr ⟨0, rfl⟩, HCC.out.1, HCC.out.2⟩
      · simpa using HRES.out
      · exact hm.blk HBB.out (fun h => h)
    case hId => exact fun k a c W n h => h.keep HSP.out (mod_drewN W n)
    case hI => exact fun k a c W h => h.read
    case hN => exact fun k a c W h => ⟨h.read.1, h.read.2.1, h.read.2.2.1, fun a2 c2 hr hm hc hc2 => h.box HSP.out hr (h.spot hm) hc hc2⟩
    case hbf => have := HS4.out; omega
    case hi0 => omega
    case hb => have := HRNG.out; omega
    case hbody =>
      intro l k a' c' W' hi hk
      have hmi := hi.mod
      have h1 := HWS.out
      have hnj : ¬ (S j ∨ j = wc.heap.size + 1 ∨ j = w.heap.size + 1) := by
        have := HJL.out
        rintro (h | h | h)
        · exact hjS h
        · omega
        · omega
      have hnb : ¬ (S w.heap.size ∨ w.heap.size = wc.heap.size + 1 ∨ w.heap.size = w.heap.size + 1) := by
        rintro (h | h | h)
        · have := HLT.out _ h; omega
        · omega
        · omega
      have hbx' : W'.cell? ⟨w.heap.size, 0, none⟩ = some (.pointer (some ⟨j, 0, none⟩)) := (hmi.blk HBX4.out hnb).is rfl
      have hj0' : W'.cell? ⟨j, 0, none⟩ = some (.pointer (some ⟨p, 0, none⟩)) := Blk.is (hmi.blk HJ4.out hnj) rfl
      have HWR := hid (hi.write HSP.out hk (by have := HX.out; have := HAL.out; omega) _ rfl)
      have HSZ := hid hi.size
      clear hmi hnj hnb hi hk h1
      generalize Nat.min (al.length - 64 * k) 64 = m at *
      rw [show (((fr + ix : Nat)) : Int) = (fr : Int) + (ix : Int) by omega] at HWR
      have HFAR := hid (show ∀ (X : World) (v : Value) (x : Nat), W4.heap.size ≤ x → x < X.heap.size → (X.setCell ⟨w.heap.size + 1, 0, none⟩ v).heap[x]? = X.heap[x]? from fun X v x hx hlt => by
        have hmm : Mod (fun k => k = w.heap.size + 1) X (X.setCell ⟨w.heap.size + 1, 0, none⟩ v) := Mod.set (S := fun k => k = w.heap.size + 1) (Mod.refl _ _) (.inl rfl) v
        exact hmm.block x hlt (fun e => by have := HSP.out.rbl; omega))
      gi_wp2_with fail
      refine ⟨trivial, (CallsIn.inRound l (callsIn_wide.2 HWR.out)).mono ?_⟩
      rintro e w' ⟨e0, rfl, hkp, hrb, ⟨rfl, hlj⟩ | ⟨hne, hlx⟩⟩
      · have HKP := hid hkp
        have HLJ := hid hlj
        clear hkp hrb hlj HWR
        gi_wp2
        exact ⟨HKP.out, HLJ.out⟩
      · have HKP := hid hkp
        have HLX := hid hlx
        have HNE := hid hne
        have hrb0 : w'.cell? ⟨w.heap.size + 1, 0, none⟩ = some (.int .i64 0) := hrb.is rfl
        have hrbf := hrb.free 0
        have hne' : ¬ e0 = 0 := hne
        clear hkp hrb hlx HWR hne
        gi_wp2
        refine ⟨fun x hx hx2 => ?_, HLX.out⟩
        have hlt : x < w'.heap.size := by
          have e := HKP.out x hx hx2
          have e2 : W'.heap[x]? = some (W'.heap[x]'(by have := HSZ.out; omega)) := Array.getElem?_eq_getElem _
          rw [e2] at e
          exact (Array.getElem?_eq_some_iff.1 e).1
        exact (HFAR.out _ _ x hx hlt).trans (HKP.out x hx hx2)
    case hdone =>
      intro k a' c' W' hk hi hD
      have hmi := hi.mod
      have h1 := HWS.out
      have hnj : ¬ (S j ∨ j = wc.heap.size + 1 ∨ j = w.heap.size + 1) := by
        have := HJL.out
        rintro (h | h | h)
        · exact hjS h
        · omega
        · omega
      have hnb : ¬ (S w.heap.size ∨ w.heap.size = wc.heap.size + 1 ∨ w.heap.size = w.heap.size + 1) := by
        rintro (h | h | h)
        · have := HLT.out _ h; omega
        · omega
        · omega
      obtain ⟨S', stk, b1, b2, b3, _, b5, b6, _, b8, _⟩ := hi
      have hnil : al.drop (64 * k) = [] := List.drop_eq_nil_of_le hk
      rw [hnil, wrs_nil] at b2
      have hbx' : W'.cell? ⟨w.heap.size, 0, none⟩ = some (.pointer (some ⟨j, 0, none⟩)) := (hmi.blk HBX4.out hnb).is rfl
      have HJW := hid (show IsJ W' j p fr to en ct from hmi.blk HJ4.out hnj)
      obtain ⟨hj0', _, _, _, _⟩ := HJW.out.cells
      have HAP := hid (show st.append fr en b = stk.flush by
        unfold DSt.append
        rw [HALE.out, ← HIX.out, HRES.out, ← b2]; rfl)
      have HF := hid (live_flush b1)
      obtain ⟨st2, e2, hfe⟩ : ∃ st2 e2, stk.flush = (st2, e2) := ⟨_, _, rfl⟩
      rw [hfe] at HF HAP
      have hnS : ∀ x, x < W4.heap.size + 2 → ¬ S x → ¬ S' x := fun x hx hn h => hn (b3 x hx h)
      have HNJ := hid (hnS j (by have := HJL.out; have := HS4.out; omega) hjS)
      have HNB := hid (hnS w.heap.size (by have := HS4.out; omega) (fun h => by have := HLT.out _ h; omega))
      have HNR := hid (hnS (w.heap.size + 1) (by have := HS4.out; omega) (fun h => by have := HLT.out _ h; omega))
      have HND := hid (hnS W4.heap.size (by omega) (fun h => by have := HLT.out _ h; have := HS4.out; omega))
      have HBXW := hid (hmi.blk HBX4.out hnb)
      have HRBW := hid b8
      have HMW := hid hmi
      have H3 := hid b3
      have H6 := hid b6
      have HD := hid hD
      clear hmi hnj hnb b1 b2 b3 b5 b6 b8 hnil hfe hnS hk h1 hD
      go_wp2_with fail
      refine HF.out.mono ?_
      rintro e W2 ⟨S2, rfl, hl2, ht2⟩
      have HL2 := hid hl2
      have HT2 := hid ht2
      have HJ2 := hid (show IsJ W2 j p fr to en ct from ht2.mod.blk HJW.out HNJ.out)
      have HBX2 := hid (ht2.mod.blk HBXW.out HNB.out)
      have HRB2 := hid (ht2.mod.blk HRBW.out HNR.out)
      have HD2 := hid (show W2.heap[W4.heap.size]? = some (.deferred (some [])) by rw [ht2.mod.block W4.heap.size (by have := H6.out; omega) HND.out]; exact HD.out)
      have hbx2 : W2.cell? ⟨w.heap.size, 0, none⟩ = some (.pointer (some ⟨j, 0, none⟩)) := HBX2.out.is rfl
      have hrb2 : W2.cell? ⟨w.heap.size + 1, 0, none⟩ = some (.int .i64 0) := HRB2.out.is rfl
      have hrbf := HRB2.out.free 0
      clear hl2 ht2 HF hbx' hj0'
      by_cases h0 : e2 = 0
      · subst h0
        obtain ⟨_, _, _, hj3, hj4⟩ := HJ2.out.cells
        have f3 := Blk.free HJ2.out 3
        have f4 := Blk.free HJ2.out 4
        have hsz2 := HT2.out.mod.size
        have hfin := fun (X : World) (hx : Mod (fun x => x = j ∨ x = w.heap.size + 1 ∨ x = W4.heap.size) W2 X) => append_fin (X := X) HM.out HM4.out HMW.out H3.out HT2.out HL2.out hx (fun x h => by
            have := HM.out.size
            have := HS4.out
            have := HWC.out
            rcases h with h | h | h
            · exact .inl h
            · exact .inr (by omega)
            · exact .inr (by omega)) (fun x h => by
            have := H6.out
            have := HW0.out
            have := HWC.out
            have := HS4.out
            have := HJL.out
            rcases h with rfl | rfl | rfl
            · exact ⟨by omega, HNJ.out, hj0⟩
            · exact ⟨by omega, HNR.out, by omega⟩
            · exact ⟨by omega, HND.out, by omega⟩) (by have := HWC.out; omega) (by omega)
        have HFIN := hid hfin
        clear hfin hsz2
        have hct : IntKind.i64.wrap ((ct : Int) + 1) = (ct : Int) + 1 := wrap_in _ (by omega)
        go_wp2_with fail
        refine wp_region_noPanic ?_
        go_region
        all_goals
          refine NoPanic.normal ?_
          go_wp2_with fail
        have hX : Mod (fun x => x = j ∨ x = w.heap.size + 1) W2 (((W2.setCell ⟨j, 3, none⟩ (.int .i64 ((en : Int) + ((bl : Int) + 16)))).setCell ⟨j, 4, none⟩ (.int .i64 ((ct : Int) + 1))).setCell ⟨w.heap.size + 1, 0, none⟩ (.int .i64 0)) :=
          Mod.set (S := fun x => x = j ∨ x = w.heap.size + 1) (Mod.set (S := fun x => x = j ∨ x = w.heap.size + 1) (Mod.set (S := fun x => x = j ∨ x = w.heap.size + 1) (Mod.refl _ _) (.inl (.inl rfl)) _) (.inl (.inl rfl)) _) (.inl (.inr rfl)) _
        have hjr : j ≠ w.heap.size + 1 := by have := HJL.out; omega
        have hJX : IsJ (((W2.setCell ⟨j, 3, none⟩ (.int .i64 ((en : Int) + ((bl : Int) + 16)))).setCell ⟨j, 4, none⟩ (.int .i64 ((ct : Int) + 1))).setCell ⟨w.heap.size + 1, 0, none⟩ (.int .i64 0)) j p fr to ((en : Int) + ((bl : Int) + 16)) ((ct : Int) + 1) :=
          ((Blk.set HJ2.out 3 _).set 4 _).set_other (by exact hjr) _
        have hRX := ((HRB2.out.set_other (a := ⟨j, 3, none⟩) (by exact Ne.symm hjr) (.int .i64 ((en : Int) + ((bl : Int) + 16)))).set_other (a := ⟨j, 4, none⟩) (by exact Ne.symm hjr) (.int .i64 ((ct : Int) + 1))).set 0 (.int .i64 0)
        generalize ((W2.setCell ⟨j, 3, none⟩ (.int .i64 ((en : Int) + ((bl : Int) + 16)))).setCell ⟨j, 4, none⟩ (.int .i64 ((ct : Int) + 1))).setCell ⟨w.heap.size + 1, 0, none⟩ (.int .i64 0) = X at *
        have hd3 : X.heap[W4.heap.size]? = some (.deferred (some [])) := by
          rw [hX.block W4.heap.size (Array.getElem?_eq_some_iff.1 HD2.out).1 (by have := HSP.out.rbl; have := HJL.out; have := HS4.out; have := HWC.out; omega)]; exact HD2.out
        have hmx : Mod (fun x => x = j ∨ x = w.heap.size + 1 ∨ x = W4.heap.size) W2 (X.drew.putObj W4.heap.size (.deferred none)) :=
          (hX.drew.mono (fun x _ h => h.imp id Or.inl)).trans ((mod_putObj X.drew W4.heap.size (.deferred none)).mono (fun x _ h => Or.inr (Or.inr h)))
        obtain ⟨g1, g2, g3⟩ := HFIN.out _ hmx
        refine ret47d _ _ (w.heap.size + 1) W4.heap.size 0 hd3 rfl (hRX.is rfl) ?_
        rw [HAP.out]
        refine ⟨S2, rfl, g1, ?_, g2, g3⟩
        show IsJ _ _ _ _ _ (if (0 : Int) = 0 then ((en + bl + 16 : Nat) : Int) else (en : Int)) (if (0 : Int) = 0 then ((ct + 1 : Nat) : Int) else (ct : Int))
        rw [if_pos rfl, if_pos rfl]
        have := (mod_putObj X.drew W4.heap.size (.deferred none)).blk (Blk.drew hJX) (by have := HJL.out; have := HS4.out; have := HWC.out; omega)
        have e1 : ((en + bl + 16 : Nat) : Int) = (en : Int) + ((bl : Int) + 16) := by omega
        have e2 : ((ct + 1 : Nat) : Int) = (ct : Int) + 1 := by omega
        rw [e1, e2]; exact this
      · have hne : ¬ e2 = 0 := h0
        have hfin := fun (X : World) (hx : Mod (fun x => x = w.heap.size + 1 ∨ x = W4.heap.size) W2 X) => append_fin (X := X) (j := j) HM.out HM4.out HMW.out H3.out HT2.out HL2.out hx (fun x h => by
            have := HS4.out
            have := HWC.out
            rcases h with h | h
            · exact .inr (by omega)
            · exact .inr (by omega)) (fun x h => by
            have := H6.out
            have := HW0.out
            have := HWC.out
            have := HS4.out
            rcases h with rfl | rfl
            · exact ⟨by omega, HNR.out, by omega⟩
            · exact ⟨by omega, HND.out, by omega⟩) (by have := HWC.out; omega) (by omega)
        have HFIN := hid hfin
        clear hfin
        go_wp2_with fail
        have hms : Mod (fun x => x = w.heap.size + 1 ∨ x = W4.heap.size) W2 (W2.setCell ⟨w.heap.size + 1, 0, none⟩ (.int .i64 e2)) := Mod.set (Mod.refl _ _) (.inl (.inl rfl)) _
        have hd3 : (W2.setCell ⟨w.heap.size + 1, 0, none⟩ (.int .i64 e2)).heap[W4.heap.size]? = some (.deferred (some [])) := by
          have hmm : Mod (fun x => x = w.heap.size + 1) W2 (W2.setCell ⟨w.heap.size + 1, 0, none⟩ (.int .i64 e2)) := Mod.set (S := fun x => x = w.heap.size + 1) (Mod.refl _ _) (.inl rfl) _
          rw [hmm.block W4.heap.size (Array.getElem?_eq_some_iff.1 HD2.out).1 (by have := HSP.out.rbl; omega)]; exact HD2.out
        have hmx := hms.trans ((mod_putObj (W2.setCell ⟨w.heap.size + 1, 0, none⟩ (.int .i64 e2)) W4.heap.size (.deferred none)).mono (fun x _ h => Or.inr h))
        obtain ⟨g1, g2, g3⟩ := HFIN.out _ hmx
        refine ret47d _ _ (w.heap.size + 1) W4.heap.size e2 hd3 rfl ((HRB2.out.set 0 _).is rfl) ?_
        rw [HAP.out]
        refine ⟨S2, rfl, g1, ?_, g2, g3⟩
        rw [if_neg hne, if_neg hne]
        exact hmx.blk HJ2.out (by have := HJL.out; have := HS4.out; have := HWC.out; omega)
    case hstop =>
      intro W' hx hD
      obtain ⟨S', b1, b2, b3, b5, b8⟩ := hx
      have HAP := hid (show st.append fr en b = res by
        unfold DSt.append
        rw [HALE.out, ← HIX.out, HRES.out, if_neg b2])
      have hmx := mod_putObj W' W4.heap.size (.deferred none)
      have hDl := (Array.getElem?_eq_some_iff.1 hD).1
      have hfin := append_fin (X := W'.putObj W4.heap.size (.deferred none)) (j := j) HM.out HM4.out b5 b3 (Turn.same (Mod.refl S' W')) b1 hmx (fun x h => .inr (by have := HS4.out; have := HWC.out; omega))
        (fun x h => ⟨by omega, fun hs => by have := HLT.out _ (b3 x (by omega) hs); have := HS4.out; have := HWC.out; omega, by have := HS4.out; have := HWC.out; have := HW0.out; omega⟩) (by have := HWC.out; omega) (by omega)
      have HFIN := hid hfin
      have HJX := hid (show IsJ W' j p fr to en ct from b5.blk HJ4.out (by
        have := HJL.out
        have := HWC.out
        rintro (h | h | h)
        · exact hjS h
        · omega
        · omega))
      have HR8 := hid b8
      have HB2 := hid b2
      have HMX := hid hmx
      have HDD := hid hD
      clear hmx hfin b1 b3 b5 b8 b2 hDl hD
      go_wp2_with fail
      refine ret47d _ _ (w.heap.size + 1) W4.heap.size res.2 HDD.out rfl (HR8.out.is rfl) ?_
      obtain ⟨g1, g2, g3⟩ := HFIN.out
      rw [HAP.out]
      refine ⟨S', rfl, g1, ?_, g2, g3⟩
      rw [if_neg HB2.out, if_neg HB2.out]
      exact HMX.out.blk HJX.out (by have := HJL.out; have := HS4.out; have := HWC.out; omega)
end Go.Proofs.Ytdhhpnfdnoaihaa
